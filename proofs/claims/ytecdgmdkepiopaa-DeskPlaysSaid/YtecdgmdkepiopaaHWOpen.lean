import Derived.Test.YtecdgmdkepiopaaHWRow
import Derived.SizedLaws
import Derived.ChangeSlices
set_option linter.unusedSimpArgs false
set_option linter.unusedVariables false
namespace Go.HW
open Go Go.RowKit Go.ChangeShapes Go.WideShapes
section
variable {H : Type} {enc : TypeId × Value → H} {P : Program} {W : World} {base : Nat} {spare : Nat → Bool} {held : Bool}
/-- a slice of numbers that came in, as the walk reads it -/
theorem cells_ofInts {t e : TypeId} {k : IntKind} {a : Option Addr} {len cap : Nat} {d : DataW H} {ps : List MemPlace} (hu : P.underlying t = some (.slice e)) (he : P.underlying e = some (.int k)) (hc : P.cellsOf e = 1)
    (h : DataW.Trod enc P W base spare held t (.slice a len cap) d ps) : ∃ xs : List Int, Cells W a (nums k xs) ∧ len = xs.length ∧ (∀ n, n ∈ xs → (Lit.int k n).wf = true) := by
  obtain ⟨fuel, hf⟩ := h
  rcases open_ints hu he hc hf with ⟨hcs, _⟩ | ⟨x, l, c, zs, hcs, _, hl, _, hz, _, hcell, hwf⟩
  · simp [Value.cells] at hcs
    obtain ⟨rfl, rfl, rfl⟩ := hcs
    exact ⟨[], Cells.nil W _, rfl, by simp⟩
  · simp [Value.cells] at hcs
    obtain ⟨rfl, rfl, rfl⟩ := hcs
    have hle : len ≤ zs.length := by
      rw [hz]
      split
      · exact hl
      · exact Nat.le_refl _
    refine ⟨zs.take len, ⟨fun j v hj => ?_, fun hne => ?_⟩, by rw [List.length_take]; omega, fun n hn => hwf n (List.mem_of_mem_take hn)⟩
    · have hjl : j < len := by
        rcases Nat.lt_or_ge j len with h | h
        · exact h
        · rw [List.getElem?_eq_none (by simp [nums]; omega)] at hj; cases hj
      have h1 := hcell j (by omega)
      have hspot : x.spot = none := by
        have h0 := hcell 0 (by omega)
        simp only [Addr.add, if_true] at h0
        simp only [World.cell?] at h0
        split at h0
        · split at h0
          · cases h0
          · rename_i hh; simpa using hh
        · cases h0
      have hadd : x.add j = ⟨aB (some x), aO (some x) + j, none⟩ := by
        obtain ⟨b, o, s⟩ := x
        simp only at hspot
        subst hspot
        simp only [aB, aO, Option.getD_some]
        exact Addr.add_mid b o j
      rw [hadd] at h1
      rw [h1]
      simp only [nums, List.getElem?_map, List.getElem?_take, if_pos hjl, List.getElem?_eq_getElem (show j < zs.length by omega), Option.map_some] at hj
      simpa [List.getElem?_eq_getElem (show j < zs.length by omega)] using hj
    · have hl0 : 0 < len := by
        rcases Nat.eq_zero_or_pos len with h | h
        · subst h; exact absurd (by simp [nums]) hne
        · exact h
      have h0 := hcell 0 (by omega)
      simp only [Addr.add, if_true] at h0
      have hspot : x.spot = none := by
        simp only [World.cell?] at h0
        split at h0
        · split at h0
          · cases h0
          · rename_i hh; simpa using hh
        · cases h0
      obtain ⟨b, o, s⟩ := x
      simp only at hspot
      subst hspot
      rfl
/-- such a slice is no longer than its weight allows -/
theorem sized_ints {t e : TypeId} {k : IntKind} {a : Option Addr} {len cap : Nat} {d : DataW H} {ps : List MemPlace} {ts : List TypeId} {ds : List (DataW H)} {j : Nat}
    (hsz : (DataW.weightsEach P ts ds).all (· ≤ reachBytes) = true) (ht : ts[j]? = some t) (hd : ds[j]? = some d) (hu : P.underlying t = some (.slice e)) (he : P.underlying e = some (.int k)) (hc : P.cellsOf e = 1) {B : Nat} (hB : P.bytesOf e = B)
    (h : DataW.Trod enc P W base spare held t (.slice a len cap) d ps) : len * B ≤ 140737488351232 := by
  obtain ⟨fuel, hf⟩ := h
  rcases open_ints hu he hc hf with ⟨hcs, _⟩ | ⟨x, l, c, zs, hcs, _, hl, _, hz, hx, _, _⟩
  · simp [Value.cells] at hcs
    obtain ⟨rfl, rfl, rfl⟩ := hcs
    simp
  · simp [Value.cells] at hcs
    obtain ⟨rfl, rfl, rfl⟩ := hcs
    obtain ⟨hx, _⟩ := Prod.mk.inj hx
    subst hx
    have z := sized_slice hsz ht hd hu
    rw [hB] at z
    have hl2 : len ≤ zs.length := by
      rw [hz]
      split
      · exact hl
      · exact Nat.le_refl _
    have h1 : (lits (H := H) k (zs.take len)).length + (lits (H := H) k (zs.drop len)).length = zs.length := by
      simp [lits]
      omega
    rw [h1] at z
    exact Nat.le_trans (Nat.mul_le_mul_right _ hl2) z
/-- its capacity -/
theorem ints_cap {t e : TypeId} {k : IntKind} {a : Option Addr} {len cap : Nat} {d : DataW H} {ps : List MemPlace} (hu : P.underlying t = some (.slice e)) (he : P.underlying e = some (.int k)) (hc : P.cellsOf e = 1)
    (h : DataW.Trod enc P W base spare held t (.slice a len cap) d ps) : len ≤ cap ∧ cap ≤ maxLen := by
  obtain ⟨fuel, hf⟩ := h
  rcases open_ints hu he hc hf with ⟨hcs, _⟩ | ⟨x, l, c, zs, hcs, _, hl, hm, _⟩
  · simp [Value.cells] at hcs
    obtain ⟨rfl, rfl, rfl⟩ := hcs
    exact ⟨Nat.le_refl _, Nat.zero_le _⟩
  · simp [Value.cells] at hcs
    obtain ⟨rfl, rfl, rfl⟩ := hcs
    exact ⟨hl, hm⟩
end
end Go.HW
