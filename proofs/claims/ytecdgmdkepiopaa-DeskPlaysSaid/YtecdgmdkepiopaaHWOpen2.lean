import Derived.Test.YtecdgmdkepiopaaHWOpen
import Derived.Deep.Slices
import Derived.ChangeArms
set_option linter.unusedSimpArgs false
set_option linter.unusedVariables false
set_option linter.unusedSectionVars false
namespace Go.HW
open Go Go.RowKit Go.ChangeShapes Go.WideShapes
theorem mapM_some {α β : Type} (f : α → Option β) : ∀ (l : List α) (ys : List β), l.mapM f = some ys → ys.length = l.length ∧ ∀ (j : Nat) (x : α), l[j]? = some x → f x = ys[j]?
  | [], ys, h => by simp at h; subst h; simp
  | a :: l, ys, h => by
    rw [List.mapM_cons] at h
    simp only [Option.bind_eq_bind, Option.bind_eq_some_iff, Option.pure_def, Option.some.injEq] at h
    obtain ⟨y, hy, ys', hys, rfl⟩ := h
    obtain ⟨h1, h2⟩ := mapM_some f l ys' hys
    refine ⟨by simp [h1], fun j x hj => ?_⟩
    cases j with
    | zero => simp at hj; subst hj; simpa using hy
    | succ j => simp at hj; simpa using h2 j x hj
theorem add_mk {a : Addr} (h : a.spot = none) (j : Nat) : a.add j = ⟨a.block, a.off + j, none⟩ := by
  obtain ⟨b, o, s⟩ := a
  simp only at h; subst h
  exact Addr.add_mid b o j
theorem spot_none {w : World} {a : Addr} {v : Value} (h : w.cell? a = some v) : a.spot = none := by
  simp only [World.cell?] at h
  split at h
  · split at h
    · cases h
    · rename_i hh; simpa using hh
  · cases h
section
variable {H : Type} {enc : TypeId × Value → H} {P : Program} {w : World} {base : Nat} {spare : Nat → Bool} {held : Bool} {t : TypeId} {fuel : Nat} {cs : List Value} {x : DataW H × List MemPlace}
theorem part_of {fs : Array Field} (ht : P.underlying t = some (.struct fs)) (h : DataW.trod enc P w base spare held fuel t cs = some x) :
    cs.length = P.cellsOf t ∧ ∀ (i : Nat) (f : Field), fs[i]? = some f → ∃ n y, DataW.trod enc P w base spare held n f.type ((cs.drop f.offset).take (P.cellsOf f.type)) = some y := by
  obtain ⟨xs, n, _, rfl, hl, hlen, hf⟩ := DataW.trod_struct ht h
  refine ⟨hl, fun i f hi => ?_⟩
  have hlt : i < xs.length := by rw [hlen]; exact (Array.getElem?_eq_some_iff.1 hi).1
  exact ⟨n, xs[i], by rw [hf i f hi, List.getElem?_eq_getElem hlt]⟩
theorem int_cell {k : IntKind} (ht : P.underlying t = some (.int k)) (h : DataW.trod enc P w base spare held fuel t cs = some x) : ∃ n, cs = [.int k n] ∧ (Lit.int k n).wf = true := by
  cases fuel with
  | zero => simp [DataW.trod] at h
  | succ fuel =>
    unfold DataW.trod at h
    rw [ht] at h
    match cs, h with
    | [.int k' n], h =>
      simp only at h
      split at h
      · rename_i hc
        obtain ⟨rfl, hw⟩ := hc
        exact ⟨n, rfl, hw⟩
      · cases h
theorem struct_int {fs : Array Field} {i o : Nat} {f : Field} {k : IntKind} (ht : P.underlying t = some (.struct fs)) (h : DataW.trod enc P w base spare held fuel t cs = some x) (hf : fs[i]? = some f) (ho : f.offset = o) (hk : P.underlying f.type = some (.int k)) (hc : P.cellsOf f.type = 1) :
    ∃ n, cs[o]? = some (.int k n) ∧ (Lit.int k n).wf = true := by
  obtain ⟨_, hp⟩ := part_of ht h
  obtain ⟨n, y, hy⟩ := hp i f hf
  obtain ⟨m, hm, hw⟩ := int_cell hk hy
  refine ⟨m, ?_, hw⟩
  subst ho
  rw [hc] at hm
  have := congrArg (·[0]?) hm
  simpa using this
/-- a slice, its elements of any type -/
theorem slice_cells {α : Type} {e : TypeId} {s : Nat} (en : α → List Value) (ok : α → Prop) (ht : P.underlying t = some (.slice e)) (hs : P.cellsOf e = s) (h0 : 0 < s)
    (hel : ∀ n cs' y, DataW.trod enc P w base spare held n e cs' = some y → ∃ a : α, cs' = en a ∧ ok a) (hen : ∀ a, (en a).length = s)
    (h : DataW.trod enc P w base spare held fuel t cs = some x) :
    ∃ (A : Option Addr) (cap : Nat) (l : List α), cs = [.slice A l.length cap] ∧ l.length ≤ cap ∧ cap ≤ maxLen ∧ Cells w A (encs en l) ∧ ∀ a, a ∈ l → ok a := by
  rcases Deep.open_slice ht h with ⟨hcs, _⟩ | ⟨a, len, cap, m, n, D, Pl, hcs, hb, hl, hm, hmm, _, hall⟩
  · exact ⟨none, 0, [], hcs, Nat.le_refl _, Nat.zero_le _, Cells.nil w _, by simp⟩
  · have hle : len ≤ m := by rw [hmm]; split <;> omega
    have hex : ∀ i, i < len → ∃ c : α, ok c ∧ ∀ j, j < s → w.cell? (a.add (i * s + j)) = (en c)[j]? := by
      intro i hi
      obtain ⟨cs', h1, h2⟩ := hall i (by omega)
      obtain ⟨c, rfl, hok⟩ := hel _ _ _ h2
      refine ⟨c, hok, fun j hj => ?_⟩
      rw [hs] at h1
      unfold World.cells? at h1
      split at h1
      · obtain ⟨_, h3⟩ := mapM_some _ _ _ h1
        have := h3 j j (by rw [List.getElem?_range hj])
        rw [← Deep.add_add]; exact this
      · cases h1
    have build : ∀ k, k ≤ len → ∃ l : List α, l.length = k ∧ (∀ c, c ∈ l → ok c) ∧ ∀ (i : Nat) (hi : i < l.length) (j : Nat), j < s → w.cell? (a.add (i * s + j)) = (en l[i])[j]? := by
      intro k
      induction k with
      | zero => intro _; exact ⟨[], rfl, by simp, by simp⟩
      | succ k ih =>
        intro hk
        obtain ⟨l, hl1, hl2, hl3⟩ := ih (by omega)
        obtain ⟨c, hc1, hc2⟩ := hex k (by omega)
        refine ⟨l ++ [c], by simp [hl1], ?_, ?_⟩
        · intro d hd; simp at hd; rcases hd with hd | rfl
          · exact hl2 d hd
          · exact hc1
        · intro i hi j hj
          simp at hi
          by_cases hik : i < l.length
          · rw [List.getElem_append_left hik]; exact hl3 i hik j hj
          · have : i = k := by omega
            subst this
            rw [List.getElem_append_right (by omega)]
            simp [hl1]
            exact hc2 j hj
    obtain ⟨l, hl1, hl2, hl3⟩ := build len (Nat.le_refl _)
    have hcell : ∀ (j : Nat) (v : Value), (encs en l)[j]? = some v → w.cell? (a.add j) = some v := by
      intro j v hj
      have hlen : (encs en l).length = l.length * s := encs_length en hen l
      have hjl : j < l.length * s := by rw [← hlen]; exact (List.getElem?_eq_some_iff.1 hj).1
      have hq : j / s < l.length := Nat.div_lt_of_lt_mul (by rw [Nat.mul_comm]; exact hjl)
      have hr : j % s < s := Nat.mod_lt _ h0
      have e1 : j / s * s + j % s = j := by rw [Nat.mul_comm]; exact Nat.div_add_mod j s
      have h1 := hl3 (j / s) hq (j % s) hr
      rw [e1] at h1
      rw [h1, ← hj]
      have h2 := encs_get en hen l (j / s) hq
      rw [← h2, List.getElem?_take_of_lt (by exact hr), List.getElem?_drop, e1]
    refine ⟨some a, cap, l, by rw [hcs, hl1], by omega, hm, ⟨fun j v hj => ?_, fun hne => ?_⟩, hl2⟩
    · have h1 := hcell j v hj
      have h0' := hcell 0
      have hne : 0 < (encs en l).length := by have := (List.getElem?_eq_some_iff.1 hj).1; omega
      have hsp := h0' _ (List.getElem?_eq_getElem hne)
      have hspot : a.spot = none := by
        have := spot_none hsp
        simpa [Addr.add] using this
      rw [add_mk hspot] at h1
      exact h1
    · have hne' : 0 < (encs en l).length := by cases hh : encs en l with
        | nil => exact absurd hh hne
        | cons _ _ => simp
      have hsp := hcell 0 _ (List.getElem?_eq_getElem hne')
      have hspot : a.spot = none := by
        have := spot_none hsp
        simpa [Addr.add] using this
      obtain ⟨b, o, s'⟩ := a
      simp only at hspot; subst hspot
      rfl
end
end Go.HW
namespace Go.HW
open Go Go.RowKit Go.ChangeShapes Go.WideShapes
section
variable {H : Type} {enc : TypeId × Value → H} {P : Program} {w : World} {base : Nat} {spare : Nat → Bool} {held : Bool} {t : TypeId} {fuel : Nat} {cs : List Value} {x : DataW H × List MemPlace}
theorem bool_cell (ht : P.underlying t = some .bool) (h : DataW.trod enc P w base spare held fuel t cs = some x) : ∃ b, cs = [.bool b] := by
  cases fuel with
  | zero => simp [DataW.trod] at h
  | succ fuel =>
    unfold DataW.trod at h
    rw [ht] at h
    match cs, h with
    | [.bool b], h => exact ⟨b, rfl⟩
theorem struct_bool {fs : Array Field} {i o : Nat} {f : Field} (ht : P.underlying t = some (.struct fs)) (h : DataW.trod enc P w base spare held fuel t cs = some x) (hf : fs[i]? = some f) (ho : f.offset = o) (hk : P.underlying f.type = some .bool) (hc : P.cellsOf f.type = 1) :
    ∃ b, cs[o]? = some (.bool b) := by
  obtain ⟨_, hp⟩ := part_of ht h
  obtain ⟨n, y, hy⟩ := hp i f hf
  obtain ⟨m, hm⟩ := bool_cell hk hy
  refine ⟨m, ?_⟩
  subst ho
  rw [hc] at hm
  have := congrArg (·[0]?) hm
  simpa using this
end
end Go.HW
