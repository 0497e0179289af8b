import Derived.Test.YtecdgmdkepiopaaHWRow
import Derived.Maps.Keyed
import Derived.Maps.RangeRun
import Derived.Laws.Externs
import Derived.MapKept
import Derived.DeepKeys5
set_option linter.unusedSimpArgs false
set_option linter.unusedVariables false
set_option linter.unusedSectionVars false
namespace Go.HW
open Go Go.RowKit Go.Maps
open Go.ChangeMaps (setBlock)

/-! ### maps -/
theorem eql_map_nil {P : Program} (w : World) (t k e : TypeId) (p : Option Nat) (h : P.underlying t = some (.map k e)) : (binOp .eql t (.map p) (.map none)).run P w = .ok (.bool p.isNone) w := by
  have : ∀ d, (Op.equalIn (d + 1) t (.map p) (.map none)).run P w = .ok p.isNone w := fun d => by cases p <;> simp [Op.equalIn, run_underlying h]
  simp only [binOp]
  simp [show Op.equal t (.map p) (.map none) = Op.equalIn (9999 + 1) t (.map p) (.map none) from rfl, this 9999]
theorem assert_map {P : Program} (w : World) (t xT k e : TypeId) (v : Value) (h : P.underlying t = some (.map k e)) : (Instr.typeAssert (.iface t v) xT t false).run P w = .ok v w := by
  simp [Instr.typeAssert, run_underlying h, go_sem, Result.andThen]
theorem clone_map {P : Program} {w : World} {r : Nat} {es : Array MapEntry} {clock : Nat} (t : TypeId) (hb : w.heap[r]? = some (.map es clock)) :
    (Extern.MapsClone.clone #[.iface t (.map (some r))]).run P w = .ok (.iface t (.map (some w.heap.size))) (w.alloc (.map es clock)) := by
  have e : Extern.MapsClone.clone #[.iface t (.map (some r))] = (getObj r >>= fun o => match o with
      | .map entries clock => (newObj (.map entries clock) >>= fun n => pure (.iface t (.map (some n))))
      | _ => stuck "maps.clone: a map expected") := rfl
  rw [e]
  simp [MapKept.run_getObj_map hb, Result.andThen, go_sem]
section
variable {κ ν : Type} (eK : κ → Value) (eV : ν → Value) (g : κ → Prop)
/-- the keys of a map's type: how they lie, and which of them there are -/
structure KT (P : Program) (k : TypeId) : Prop where
  K : Keyed P k
  ok : ∀ a, g a → ∃ l, keyOf P k (eK a) = some l
  inj : ∀ a b, g a → g b → eK a = eK b → a = b
def ment (x : κ × ν × Nat) : MapEntry := ⟨eK x.1, eV x.2.1, x.2.2⟩
structure MapAt (w : World) (b : Nat) (L : List (κ × ν × Nat)) (clock : Nat) : Prop where
  at_ : w.heap[b]? = some (.map (L.map (ment eK eV)).toArray clock)
  good : ∀ x, x ∈ L → g x.1
  born : ∀ x, x ∈ L → x.2.2 < clock
  nb : (L.map (·.2.2)).Nodup
  nk : (L.map (·.1)).Nodup
variable [DecidableEq κ]
def mget (L : List (κ × ν × Nat)) (k : κ) : Option ν := (L.find? (fun x => decide (x.1 = k))).map (·.2.1)
def mset (m : κ → Option ν) (k : κ) (v : ν) : κ → Option ν := fun x => if x = k then some v else m x
def mdel (m : κ → Option ν) (k : κ) : κ → Option ν := fun x => if x = k then none else m x
/-- a map of the call's own, as what it holds at each key -/
def mapc (b : Nat) (m : κ → Option ν) : Ck := ⟨[b], fun w => ∃ L clock, MapAt eK eV g w b L clock ∧ ∀ k, mget L k = m k, fun w w' h ⟨L, c, H, hm⟩ => ⟨L, c, ⟨by rw [h b (by simp)]; exact H.at_, H.good, H.born, H.nb, H.nk⟩, hm⟩⟩
/-- the same, its entries known -/
def mapf (b : Nat) (L : List (κ × ν × Nat)) (clock : Nat) : Ck := ⟨[b], fun w => MapAt eK eV g w b L clock, fun w w' h H => ⟨by rw [h b (by simp)]; exact H.at_, H.good, H.born, H.nb, H.nk⟩⟩
/-- a range over it: the entries that were handed out -/
def iterc (r b : Nat) (clock : Nat) (S : List (κ × ν × Nat)) : Ck := ⟨[r], fun w => w.heap[r]? = some (.mapIter (some b) clock (S.map (·.2.2)).toArray clock), fun w w' h H => by rw [h r (by simp)]; exact H⟩
end
section
variable {κ ν : Type} {eK : κ → Value} {eV : ν → Value} {g : κ → Prop} [DecidableEq κ] {w w' : World} {b clock : Nat} {L : List (κ × ν × Nat)} {m : κ → Option ν}
theorem MapAt.lt (h : MapAt eK eV g w b L clock) : b < w.heap.size := (Array.getElem?_eq_some_iff.1 h.at_).1
theorem mapf_ok (h : MapAt eK eV g w b L clock) : (mapf eK eV g b L clock).ok w := ⟨h, fun c hc => by simp [mapf] at hc; subst hc; exact h.lt⟩
theorem mapc_ok (h : MapAt eK eV g w b L clock) (hm : ∀ k, mget L k = m k) : (mapc eK eV g b m).ok w := ⟨⟨L, clock, h, hm⟩, fun c hc => by simp [mapc] at hc; subst hc; exact h.lt⟩
theorem heap_setBlock {w : World} {b : Nat} {o : Obj} (h : b < w.heap.size) : (setBlock w b o).heap[b]? = some o := by simp [setBlock, h]
theorem Fr.setBlock (w : World) (b : Nat) (o : Obj) : Fr [b] w (setBlock w b o) :=
  ⟨rfl, rfl, rfl, by simp [ChangeMaps.setBlock], fun c _ hn => by simp at hn; simp [ChangeMaps.setBlock, Array.getElem?_setIfInBounds, Ne.symm hn]⟩
theorem mget_eq_none {k : κ} (h : ∀ x, x ∈ L → x.1 ≠ k) : mget L k = none := by
  unfold mget
  rw [List.find?_eq_none.2 (fun x hx => by simpa using h x hx)]; rfl
theorem mget_cons (x : κ × ν × Nat) (L : List (κ × ν × Nat)) (k : κ) : mget (x :: L) k = if x.1 = k then some x.2.1 else mget L k := by
  unfold mget
  rw [List.find?_cons]
  by_cases h : x.1 = k <;> simp [h]
theorem mget_mem : ∀ {L : List (κ × ν × Nat)} (hn : (L.map (·.1)).Nodup) {x : κ × ν × Nat}, x ∈ L → mget L x.1 = some x.2.1
  | y :: L, hn, x, hx => by
    rw [mget_cons]
    simp only [List.map_cons, List.nodup_cons] at hn
    rcases List.mem_cons.1 hx with rfl | hx
    · simp
    · rw [if_neg (fun e => hn.1 (by rw [e]; exact List.mem_map.2 ⟨x, hx, rfl⟩))]
      exact mget_mem hn.2 hx
theorem mget_some {L : List (κ × ν × Nat)} {k : κ} {v : ν} (h : mget L k = some v) : ∃ n, (k, v, n) ∈ L := by
  unfold mget at h
  rw [Option.map_eq_some_iff] at h
  obtain ⟨x, hx, rfl⟩ := h
  have h1 := List.find?_some hx
  simp at h1
  exact ⟨x.2.2, by rw [← h1]; exact List.mem_of_find?_eq_some hx⟩
theorem mget_append (L1 L2 : List (κ × ν × Nat)) (k : κ) : mget (L1 ++ L2) k = (mget L1 k).or (mget L2 k) := by
  unfold mget
  rw [List.find?_append]
  cases L1.find? _ <;> simp
theorem key_born (hn : (L.map (·.2.2)).Nodup) {x y : κ × ν × Nat} (hx : x ∈ L) (hy : y ∈ L) (h : x.2.2 = y.2.2) : x = y := by
  induction L with
  | nil => cases hx
  | cons z L ih =>
    simp only [List.map_cons, List.nodup_cons] at hn
    rcases List.mem_cons.1 hx with e1 | hx1 <;> rcases List.mem_cons.1 hy with e2 | hy1
    · rw [e1, e2]
    · subst e1; exact absurd (List.mem_map.2 ⟨y, hy1, h.symm⟩) hn.1
    · subst e2; exact absurd (List.mem_map.2 ⟨x, hx1, h⟩) hn.1
    · exact ih hn.2 hx1 hy1

variable {P : Program} {k e t : TypeId}
/-- where a key stands -/
theorem MapAt.find (T : KT eK g P k) (h : MapAt eK eV g w b L clock) {a : κ} (ha : g a) :
    ((Instr.findKey k (eK a) (L.map (ment eK eV))).run P w = .ok none w ∧ (∀ x, x ∈ L → x.1 ≠ a) ∧ mget L a = none) ∨
    ∃ j x, (Instr.findKey k (eK a) (L.map (ment eK eV))).run P w = .ok (some (j, eV x.2.1)) w ∧ L[j]? = some x ∧ x.1 = a ∧ mget L a = some x.2.1 := by
  obtain ⟨l, hl⟩ := T.ok a ha
  rcases T.K.find w hl (L.map (ment eK eV)) (fun en hen => by
    obtain ⟨x, hx, rfl⟩ := List.mem_map.1 hen
    exact T.ok _ (h.good x hx)) with ⟨h1, h2⟩ | ⟨j, en, h1, h2, h3⟩
  · have h4 : ∀ x, x ∈ L → x.1 ≠ a := fun x hx e => h2 _ (List.mem_map.2 ⟨x, hx, rfl⟩) (by simp [ment, e])
    exact .inl ⟨h1, h4, mget_eq_none h4⟩
  · rw [List.getElem?_map, Option.map_eq_some_iff] at h2
    obtain ⟨x, hx, rfl⟩ := h2
    have hxm := List.mem_of_getElem? hx
    have hxa : x.1 = a := T.inj _ _ (h.good x hxm) ha h3
    exact .inr ⟨j, x, h1, hx, hxa, hxa ▸ mget_mem h.nk hxm⟩
theorem MapAt.check (T : KT eK g P k) {a : κ} (ha : g a) (em : Bool) (w : World) : (Instr.checkKey em 10000 k (eK a)).run P w = .ok () w := by
  obtain ⟨l, hl⟩ := T.ok a ha
  exact T.K.check w em hl
theorem mem_set_iff {α : Type} {l : List α} {j : Nat} {x y : α} (hx : x ∈ l.set j y) : x = y ∨ x ∈ l := (List.mem_or_eq_of_mem_set hx).symm
theorem map_set_same {α β : Type} {f : α → β} {l : List α} {j : Nat} {x y : α} (hj : l[j]? = some x) (h : f y = f x) : (l.set j y).map f = l.map f := by
  rw [List.map_set]
  apply List.ext_getElem?
  intro i
  rw [List.getElem?_set]
  split
  · rename_i hij
    subst hij
    have : j < l.length := (List.getElem?_eq_some_iff.1 hj).1
    simp [this, hj, h]
    rw [List.getElem?_eq_getElem this] at hj
    simpa using congrArg f (Option.some.inj hj).symm
  · rfl
theorem mget_set {L : List (κ × ν × Nat)} (hn : (L.map (·.1)).Nodup) {j : Nat} {x : κ × ν × Nat} (hj : L[j]? = some x) (v : ν) (a : κ) : mget (L.set j (x.1, v, x.2.2)) a = if a = x.1 then some v else mget L a := by
  induction L generalizing j with
  | nil => simp at hj
  | cons y L ih =>
    simp only [List.map_cons, List.nodup_cons] at hn
    cases j with
    | zero =>
      simp at hj
      subst hj
      rw [List.set_cons_zero, mget_cons, mget_cons]
      by_cases h : a = y.1
      · subst h; simp
      · simp [h, Ne.symm h]
    | succ j =>
      simp at hj
      rw [List.set_cons_succ, mget_cons, ih hn.2 hj, mget_cons]
      have : y.1 ≠ x.1 := fun e => hn.1 (by rw [e]; exact List.mem_map.2 ⟨x, List.mem_of_getElem? hj, rfl⟩)
      by_cases h : y.1 = a
      · subst h; simp [this]
      · simp [h]
theorem mget_eraseIdx {L : List (κ × ν × Nat)} (hn : (L.map (·.1)).Nodup) {j : Nat} {x : κ × ν × Nat} (hj : L[j]? = some x) (a : κ) : mget (L.eraseIdx j) a = if a = x.1 then none else mget L a := by
  induction L generalizing j with
  | nil => simp at hj
  | cons y L ih =>
    simp only [List.map_cons, List.nodup_cons] at hn
    cases j with
    | zero =>
      simp at hj
      subst hj
      rw [List.eraseIdx_cons_zero, mget_cons]
      by_cases h : a = y.1
      · subst h
        rw [if_pos rfl]
        exact mget_eq_none fun z hz e => hn.1 (by rw [← e]; exact List.mem_map.2 ⟨z, hz, rfl⟩)
      · simp [h, Ne.symm h]
    | succ j =>
      simp at hj
      rw [List.eraseIdx_cons_succ, mget_cons, ih hn.2 hj, mget_cons]
      have : y.1 ≠ x.1 := fun e => hn.1 (by rw [e]; exact List.mem_map.2 ⟨x, List.mem_of_getElem? hj, rfl⟩)
      by_cases h : y.1 = a
      · subst h; simp [this]
      · simp [h]

variable {N : Nat} {ops : Array Oper} {Q : Post} {rest : List Oper} {f : Env}
variable {ty : TypeId} {pos : String} {aft : Array Edge} {gd : Option (Nat × Bool)}
variable {w0 : World} {M : List Nat} {cs ro cs' : List Ck}

theorem zero_run {z : Value} (hz : (P.info? e).map (·.zero) = some (some z)) (w : World) : (zeroValue e).run P w = .ok z w := by
  cases hi : P.info? e with
  | none => simp [hi] at hz
  | some i => simp [hi] at hz; simp [zeroValue, typeInfo, hi, hz]
theorem lookup_run (T : KT eK g P k) (ht : P.underlying t = some (.map k e)) {z : Value} (hz : (P.info? e).map (·.zero) = some (some z)) {a : κ} (ha : g a) (hR : (mapc eK eV g b m).R w) (c : Bool) :
    (Instr.lookup t (.map (some b)) (eK a) c).run P w = .ok (if c then .tuple #[((m a).map eV).getD z, .bool (m a).isSome] else ((m a).map eV).getD z) w := by
  obtain ⟨L, clock, h, hm⟩ := hR
  have hck := MapAt.check T ha (L.map (ment eK eV)).toArray.isEmpty w
  rcases h.find T ha with ⟨h1, _, h3⟩ | ⟨j, x, h1, _, _, h3⟩
  · rw [hm] at h3
    simp [Instr.lookup, run_underlying ht, MapKept.run_getObj_map h.at_, h1, h3, zero_run hz, Result.andThen] at hck ⊢
    rw [hck]
    simp [Result.andThen, h1, zero_run hz]
    try (cases c <;> rfl)
  · rw [hm] at h3
    simp [Instr.lookup, run_underlying ht, MapKept.run_getObj_map h.at_, h1, h3, zero_run hz, Result.andThen] at hck ⊢
    rw [hck]
    simp [Result.andThen, h1, zero_run hz]
    try (cases c <;> rfl)
theorem lookup_nil_run (T : KT eK g P k) (ht : P.underlying t = some (.map k e)) {z : Value} (hz : (P.info? e).map (·.zero) = some (some z)) {a : κ} (ha : g a) (c : Bool) (w : World) :
    (Instr.lookup t (.map none) (eK a) c).run P w = .ok (if c then .tuple #[z, .bool false] else z) w := by
  have hck := MapAt.check T ha true w
  obtain ⟨l, hl⟩ := T.ok a ha
  have hf := T.K.find w hl [] (by simp)
  have hfi : (Instr.findKey k (eK a) []).run P w = .ok none w := by
    rcases hf with ⟨h, _⟩ | ⟨j, e, _, h, _⟩
    · exact h
    · simp at h
  simp [Instr.lookup, run_underlying ht, zero_run hz, Result.andThen, hck, hfi]
theorem x_lookup2 {d : Tmp} {x y : Operand} {a : κ} {z v : Value} {o : Bool} (T : KT eK g P k) (ht : P.underlying t = some (.map k e)) (hz : (P.info? e).map (·.zero) = some (some z)) (hx : evo N f x = .map (some b)) (hy : evo N f y = eK a) (ha : g a)
    (hR : (mapc eK eV g b m).R w) (hv : ((m a).map eV).getD z = v) (ho : (m a).isSome = o) :
    (execOp (evo N f) ⟨some d, .lookup t x y true, ty, pos, aft, gd⟩).run P w = .ok (.value (.tuple #[v, .bool o])) w :=
  run_v (by rw [hx, hy, lookup_run T ht hz ha hR true, hv, ho]; rfl)
theorem x_lookup1 {d : Tmp} {x y : Operand} {a : κ} {z v : Value} (T : KT eK g P k) (ht : P.underlying t = some (.map k e)) (hz : (P.info? e).map (·.zero) = some (some z)) (hx : evo N f x = .map (some b)) (hy : evo N f y = eK a) (ha : g a)
    (hR : (mapc eK eV g b m).R w) (hv : ((m a).map eV).getD z = v) :
    (execOp (evo N f) ⟨some d, .lookup t x y false, ty, pos, aft, gd⟩).run P w = .ok (.value v) w :=
  run_v (by rw [hx, hy, lookup_run T ht hz ha hR false, hv]; rfl)
theorem update_run (T : KT eK g P k) (ht : P.underlying t = some (.map k e)) {a : κ} (ha : g a) (hR : (mapc eK eV g b m).R w) (v : ν) :
    ∃ o, (Instr.mapUpdate t (.map (some b)) (eK a) (eV v)).run P w = .ok () (setBlock w b o) ∧ (mapc eK eV g b (mset m a v)).ok (setBlock w b o) := by
  obtain ⟨L, clock, h, hm⟩ := hR
  obtain ⟨l, hl⟩ := T.ok a ha
  rcases h.find T ha with ⟨h1, h2, h3⟩ | ⟨j, x, h1, h2, h4, h3⟩
  · refine ⟨.map ((L ++ [(a, v, clock)]).map (ment eK eV)).toArray (clock + 1), ?_, mapc_ok (L := L ++ [(a, v, clock)]) (clock := clock + 1) ⟨heap_setBlock h.lt, ?_, ?_, ?_, ?_⟩ ?_⟩
    · simp [Instr.mapUpdate, run_underlying ht, MapKept.run_getObj_map h.at_, MapAt.check T ha, h1, MapKept.run_setObj_map _ h.at_, Result.andThen, setBlock, ment]
    · intro y hy; simp at hy; rcases hy with hy | rfl
      · exact h.good y hy
      · exact ha
    · intro y hy; simp at hy; rcases hy with hy | rfl
      · exact Nat.lt_succ_of_lt (h.born y hy)
      · exact Nat.lt_succ_self _
    · rw [List.map_append, List.nodup_append]
      refine ⟨h.nb, by simp, ?_⟩
      intro p hp q hq; simp at hq; subst hq
      obtain ⟨y, hy, rfl⟩ := List.mem_map.1 hp
      exact Nat.ne_of_lt (h.born y hy)
    · rw [List.map_append, List.nodup_append]
      refine ⟨h.nk, by simp, ?_⟩
      intro p hp q hq; simp at hq; subst hq
      obtain ⟨y, hy, rfl⟩ := List.mem_map.1 hp
      exact h2 y hy
    · intro c
      rw [mget_append, hm]
      unfold mset
      by_cases hc : c = a
      · subst hc; rw [← hm, h3]; simp [mget]
      · rw [if_neg hc]; simp [mget, Ne.symm hc]
  · have hj : j < L.length := (List.getElem?_eq_some_iff.1 h2).1
    have hx := List.mem_of_getElem? h2
    refine ⟨.map ((L.set j (x.1, v, x.2.2)).map (ment eK eV)).toArray clock, ?_, mapc_ok (L := L.set j (x.1, v, x.2.2)) (clock := clock) ⟨heap_setBlock h.lt, ?_, ?_, ?_, ?_⟩ ?_⟩
    · have hks : (Instr.keyThatStays (eK a) (eK a)).run P w = .ok (eK a) w := T.K.stays w hl
      have hmod : ∀ q : MapEntry → MapEntry, (∀ en : MapEntry, en = ment eK eV x → q en = ment eK eV (x.1, v, x.2.2)) → ((L.map (ment eK eV)).toArray.modify j q) = ((L.set j (x.1, v, x.2.2)).map (ment eK eV)).toArray := by
        intro q hq
        apply Array.ext'
        rw [Array.toList_modify]
        apply List.ext_getElem?
        intro i
        rw [List.getElem?_modify]
        simp only [List.getElem?_map, List.getElem?_set]
        by_cases hij : j = i
        · subst hij
          simp only [h2, hj, Option.map_some, if_pos]
          simp [hq]
        · simp [hij]
      simp [Instr.mapUpdate, run_underlying ht, MapKept.run_getObj_map h.at_, MapAt.check T ha, h1, MapKept.run_setObj_map _ h.at_, Result.andThen, setBlock, h2, ment, h4, hks]
      have := hmod (fun en => ⟨eK a, eV v, en.born⟩) (by rintro _ rfl; simp [ment, h4])
      simp only [ment, List.map_set] at this
      simp [h4] at this
      rw [this]
    · intro y hy
      rcases mem_set_iff hy with rfl | hy
      · exact h.good x hx
      · exact h.good y hy
    · intro y hy
      rcases mem_set_iff hy with rfl | hy
      · exact h.born x hx
      · exact h.born y hy
    · rw [map_set_same (f := fun z : κ × ν × Nat => z.2.2) (y := (x.1, v, x.2.2)) h2 rfl]; exact h.nb
    · rw [map_set_same (f := fun z : κ × ν × Nat => z.1) (y := (x.1, v, x.2.2)) h2 rfl]; exact h.nk
    · intro c
      rw [mget_set h.nk h2, hm, h4]; rfl
theorem WL_mapUpdate {x y z : Operand} {a : κ} {v : ν} (T : KT eK g P k) (ht : P.underlying t = some (.map k e)) (hx : evo N f x = .map (some b)) (hy : evo N f y = eK a) (hz : evo N f z = eV v) (ha : g a)
    (H : St w0 M cs ro w) (hA : At (mapc eK eV g b m) (mapc eK eV g b (mset m a v)) cs cs') (h : ∀ w', St w0 M cs' ro w' → WL P N ops Q rest f w') :
    WL P N ops Q (⟨none, .mapUpdate t x y z, ty, pos, aft, none⟩ :: rest) f w := by
  obtain ⟨o, hr, hok⟩ := update_run (v := v) T ht ha (H.get hA.mem)
  exact WL_runU rfl (run_u (by rw [hx, hy, hz]; exact hr)) (h _ (H.turn hA (Fr.setBlock w b o) (by simp [mapc]) hok (by simp [mapc])))
theorem delete_run (T : KT eK g P k) (ht : P.underlying t = some (.map k e)) {a : κ} (ha : g a) (hR : (mapc eK eV g b m).R w) (t' : TypeId) :
    ∃ o, (Builtin.delete_ #[t, k] t' #[.map (some b), eK a]).run P w = .ok (.tuple #[]) (setBlock w b o) ∧ (mapc eK eV g b (mdel m a)).ok (setBlock w b o) := by
  obtain ⟨L, clock, h, hm⟩ := hR
  have hck := MapAt.check T ha (L.map (ment eK eV)).toArray.isEmpty w
  rcases h.find T ha with ⟨h1, h2, h3⟩ | ⟨j, x, h1, h2, h4, h3⟩
  · refine ⟨.map (L.map (ment eK eV)).toArray clock, ?_, mapc_ok (L := L) (clock := clock) ⟨heap_setBlock h.lt, h.good, h.born, h.nb, h.nk⟩ ?_⟩
    · simp [Builtin.delete_, run_underlying ht, MapKept.run_getObj_map h.at_, h1, MapKept.run_setObj_map _ h.at_, Result.andThen, setBlock] at hck ⊢
      rw [hck]
      simp [Result.andThen, h1, MapKept.run_setObj_map _ h.at_]
    · intro c
      unfold mdel
      by_cases hc : c = a
      · subst hc; rw [h3]; simp
      · rw [if_neg hc, hm]
  · have hj : j < L.length := (List.getElem?_eq_some_iff.1 h2).1
    refine ⟨.map ((L.eraseIdx j).map (ment eK eV)).toArray clock, ?_, mapc_ok (L := L.eraseIdx j) (clock := clock) ⟨heap_setBlock h.lt, fun y hy => h.good y (List.mem_of_mem_eraseIdx hy), fun y hy => h.born y (List.mem_of_mem_eraseIdx hy), ?_, ?_⟩ ?_⟩
    · have he : ((L.map (ment eK eV)).toArray.eraseIdxIfInBounds j) = ((L.eraseIdx j).map (ment eK eV)).toArray := by
        unfold Array.eraseIdxIfInBounds
        rw [dif_pos (by simpa using hj)]
        apply Array.ext'
        rw [Array.toList_eraseIdx]
        simp [ChangeMaps.map_eraseIdx]
      simp [Builtin.delete_, run_underlying ht, MapKept.run_getObj_map h.at_, h1, MapKept.run_setObj_map _ h.at_, Result.andThen, setBlock] at hck he ⊢
      rw [hck]
      simp [Result.andThen, h1, MapKept.run_setObj_map _ h.at_, he]
    · exact ((List.eraseIdx_sublist L j).map _).nodup h.nb
    · exact ((List.eraseIdx_sublist L j).map _).nodup h.nk
    · intro c
      rw [mget_eraseIdx h.nk h2, hm, h4]; rfl
theorem WL_delete {d : Option Tmp} {x y : Operand} {a : κ} (T : KT eK g P k) (ht : P.underlying t = some (.map k e)) (hx : evo N f x = .map (some b)) (hy : evo N f y = eK a) (ha : g a)
    (H : St w0 M cs ro w) (hA : At (mapc eK eV g b m) (mapc eK eV g b (mdel m a)) cs cs') (h : ∀ w', St w0 M cs' ro w' → WL P N ops Q rest (putE f d (.tuple #[])) w') :
    WL P N ops Q (⟨d, .call { callee := .builtin .delete, args := #[x, y], argTypes := #[t, k] }, ty, pos, aft, none⟩ :: rest) f w := by
  obtain ⟨o, hr, hok⟩ := delete_run (t' := ty) T ht ha (H.get hA.mem)
  refine WL_builtin (args := [x, y]) (vs := [.map (some b), eK a]) (w' := setBlock w b o) (v := .tuple #[]) (by simp [hx, hy]) (fun cst => ?_) (h _ (H.turn hA (Fr.setBlock w b o) (by simp [mapc]) hok (by simp [mapc])))
  exact run_v hr
theorem WL_makeMap {d : Tmp} (eK : κ → Value) (eV : ν → Value) (g : κ → Prop) (H : St w0 M cs ro w) (h : ∀ b w', St w0 M (mapc eK eV g b (fun _ => none) :: cs) ro w' → WL P N ops Q rest (upd f d (.map (some b))) w') :
    WL P N ops Q (⟨some d, .makeMap t none, ty, pos, aft, none⟩ :: rest) f w := by
  refine WL_run (v := .map (some w.heap.size)) (w' := w.alloc (.map #[] 0)) rfl (run_v (by simp [Instr.makeMap])) (h _ _ (H.new (Fr.alloc w _) (mapc_ok (L := []) (clock := 0) ⟨heap_alloc_new w _, by simp, by simp, by simp, by simp⟩ (fun k => rfl)) (by simp [mapc])))
theorem x_makeIface_map {d : Tmp} {x : Operand} {v : Value} (ht : P.underlying t = some (.map k e)) (hx : evo N f x = v) :
    (execOp (evo N f) ⟨some d, .makeInterface t x, ty, pos, aft, gd⟩).run P w = .ok (.value (.iface t v)) w :=
  run_v (by rw [hx]; simp [Instr.makeInterface, run_underlying ht])
theorem x_assert_map {d : Tmp} {x : Operand} {T : TypeId} {v : Value} (ht : P.underlying t = some (.map k e)) (hx : evo N f x = .iface t v) :
    (execOp (evo N f) ⟨some d, .typeAssert x T t false, ty, pos, aft, gd⟩).run P w = .ok (.value v) w :=
  run_v (by rw [hx]; exact assert_map w t T k e v ht)
/-- maps.clone: a new map, the same entries -/
theorem WL_mapsClone {d : Tmp} {g' : FuncId} {fn : Func} {x : Operand} {ts : Array TypeId} {T : TypeId} (hfn : P.funcs[g']? = some fn) (hname : (fn.name == "runtime.NumGoroutine") = false) (hb : fn.body.isNone = true) (hn : Extern.findNext fn = none)
    (he : Extern.find fn = some Extern.MapsClone.clone) (hx : evo N f x = .iface T (.map (some b))) (H : St w0 M cs ro w) (hR : (mapc eK eV g b m).R w)
    (h : ∀ b' w', St w0 M (mapc eK eV g b' m :: cs) ro w' → WL P N ops Q rest (upd f d (.iface T (.map (some b')))) w') :
    WL P N ops Q (⟨some d, .call { callee := .value (.func g'), args := #[x], argTypes := ts }, ty, pos, aft, none⟩ :: rest) f w := by
  obtain ⟨L, clock, hM, hm⟩ := hR
  have hr := clone_map (P := P) T hM.at_
  refine WL_run (v := .iface T (.map (some w.heap.size))) (w' := w.alloc (.map (L.map (ment eK eV)).toArray clock)) rfl ?_
    (h _ _ (H.new (Fr.alloc w _) (mapc_ok (L := L) (clock := clock) ⟨heap_alloc_new w _, hM.good, hM.born, hM.nb, hM.nk⟩ hm) (by simp [mapc])))
  have := run_callFunc_extern hfn hname hb hn he #[.iface T (.map (some b))] w
  have hfv : evo N f (.func g') = .func (.func g') #[] #[] := rfl
  simp [execOp, resolve, hfv, Deferred.ofValue, invoke, hx] at this ⊢
  rw [this, hr]
  rfl
theorem x_map_eql_nil {d : Tmp} {x y : Operand} {t' : TypeId} {p : Option Nat} (ht : P.underlying t = some (.map k e)) (hx : evo N f x = .map p) (hy : evo N f y = .map none) :
    (execOp (evo N f) ⟨some d, .binOp .eql t x y t', ty, pos, aft, gd⟩).run P w = .ok (.value (.bool p.isNone)) w :=
  run_v (by
    rw [hx, hy, show eqGuard .eql t x y (.map p) (.map none) = pure () from rfl]
    exact eql_map_nil w t k e p ht)
/-! ### ranges -/
def nextL (eK : κ → Value) (eV : ν → Value) : Option (κ × ν × Nat) → List Value
  | none => [.bool false]
  | some x => [.bool true, eK x.1, eV x.2.1]
theorem iterc_ok {r : Nat} {S : List (κ × ν × Nat)} (h : w.heap[r]? = some (.mapIter (some b) clock (S.map (·.2.2)).toArray clock)) : (iterc r b clock S).ok w :=
  ⟨h, fun c hc => by simp [iterc] at hc; subst hc; exact (Array.getElem?_eq_some_iff.1 h).1⟩
theorem WL_range {d : Tmp} {x : Operand} (ht : P.underlying t = some (.map k e)) (hx : evo N f x = .map (some b)) (H : St w0 M cs ro w) (hR : (mapf eK eV g b L clock).R w)
    (h : ∀ r w', St w0 M (iterc r b clock (κ := κ) (ν := ν) [] :: cs) ro w' → WL P N ops Q rest (upd f d (.pointer (some ⟨r, 0, none⟩))) w') :
    WL P N ops Q (⟨some d, .range t x, ty, pos, aft, none⟩ :: rest) f w := by
  refine WL_run (v := .pointer (some ⟨w.heap.size, 0, none⟩)) (w' := w.alloc (.mapIter (some b) clock #[] clock)) rfl (run_v (by rw [hx]; exact run_range_map w t k e b _ clock ht hR.at_)) (h _ _ (H.new (Fr.alloc w _) (iterc_ok (S := []) (heap_alloc_new w _)) (by simp [iterc])))
theorem WL_next {d : Tmp} {x : Operand} {r : Nat} {S : List (κ × ν × Nat)} {cs'' : Option (κ × ν × Nat) → List Ck} (hx : evo N f x = .pointer (some ⟨r, 0, none⟩)) (H : St w0 M cs ro w) (hR : (mapf eK eV g b L clock).R w) (hS : ∀ x, x ∈ S → x ∈ L)
    (hA : ∀ o, At (iterc r b clock S) (iterc r b clock (S ++ Option.toList o)) cs (cs'' o))
    (h : ∀ o w', (o = none → ∀ x, x ∈ L → x ∈ S) → (∀ x, o = some x → x ∈ L ∧ x ∉ S) → St w0 M (cs'' o) ro w' → WL P N ops Q rest (upd f d (.tuple (nextL eK eV o).toArray)) w') :
    WL P N ops Q (⟨some d, .next x false, ty, pos, aft, none⟩ :: rest) f w := by
  have hI : w.heap[r]? = some (.mapIter (some b) clock (S.map (·.2.2)).toArray clock) := H.get (hA none).mem
  have hM : MapAt eK eV g w b L clock := hR
  have hrun := run_next_at (P := P) w ty r b clock clock (S.map (·.2.2)).toArray (L.map (ment eK eV)).toArray clock hI hM.at_ (fun y hy => by
    simp at hy
    obtain ⟨p, q, n, hm, rfl⟩ := hy
    exact hM.born _ hm) (Nat.le_refl _)
  rcases hrun with ⟨h0, hr⟩ | ⟨en, hen, w1, hw1, hr⟩
  · refine WL_run (v := .tuple #[.bool false]) (w' := w) rfl (run_v (by rw [hx]; exact hr)) (h none w (fun _ x hx => ?_) (by simp) (H.turn (M' := []) (hA none) (Fr.refl _ _) (by simp) ?_ (by simp [iterc])))
    · have : leftOf (L.map (ment eK eV)).toArray (S.map (·.2.2)).toArray = #[] := Array.eq_empty_of_size_eq_zero h0
      unfold leftOf at this
      rw [Array.filter_eq_empty_iff] at this
      have h1 := this (ment eK eV x) (by simp only [List.mem_toArray]; exact List.mem_map.2 ⟨x, hx, rfl⟩)
      simp [ment] at h1
      obtain ⟨p, q, hpq⟩ := h1
      have := key_born hM.nb (hS _ hpq) hx rfl
      rw [← this]; exact hpq
    · have e : S ++ Option.toList (none : Option (κ × ν × Nat)) = S := by simp
      rw [e]; exact iterc_ok hI
  · obtain ⟨he1, he2⟩ := mem_left hen
    simp only [List.toList_toArray] at he1
    obtain ⟨x, hx', rfl⟩ := List.mem_map.1 he1
    have hf1 : Fr [] w w1 := by
      rcases hw1 with rfl | rfl
      · exact Fr.refl _ _
      · exact Fr.drew w
    have hr1 : r < w1.heap.size := Nat.lt_of_lt_of_le (Array.getElem?_eq_some_iff.1 hI).1 hf1.size
    refine WL_run (v := .tuple #[.bool true, eK x.1, eV x.2.1]) (w' := setBlock w1 r (.mapIter (some b) clock ((S.map (·.2.2)).toArray.push x.2.2) clock)) rfl (run_v (by rw [hx]; exact hr)) (h (some x) _ (by simp) (fun y hy => ?_) ?_)
    · cases hy
      refine ⟨hx', fun hs => ?_⟩
      have : (S.map (·.2.2)).toArray.contains (ment eK eV x).born = true := by simp [ment]; exact ⟨_, _, hs⟩
      rw [this] at he2; cases he2
    · refine (H.quiet hf1).turn (hA (some x)) (Fr.setBlock w1 r _) (by simp [iterc]) (iterc_ok ?_) (by simp [iterc])
      rw [heap_setBlock hr1]
      simp
theorem x_entry {d : Tmp} {x : Operand} {r : Nat} {S : List (κ × ν × Nat)} {y : κ × ν × Nat} (hx : evo N f x = .pointer (some ⟨r, 0, none⟩)) (hI : (iterc r b clock (S ++ [y])).R w) (hR : (mapf eK eV g b L clock).R w) (hy : y ∈ L) :
    (execOp (evo N f) ⟨some d, .entry x, ty, pos, aft, gd⟩).run P w = .ok (.value (.tuple #[eK y.1, eV y.2.1])) w := by
  have hM : MapAt eK eV g w b L clock := hR
  have hI' : w.heap[r]? = some (.mapIter (some b) clock ((S.map (·.2.2)).toArray.push (ment eK eV y).born) clock) := by
    have : w.heap[r]? = _ := hI
    rw [this]; simp [ment]
  refine run_v ?_
  rw [hx]
  exact run_entry_at w r b clock (S.map (·.2.2)).toArray _ clock (ment eK eV y) hI' hM.at_ (by simp only [List.toList_toArray]; exact List.mem_map.2 ⟨y, hy, rfl⟩) (by
    have e : ((L.map (ment eK eV)).toArray.toList.map (·.born)) = L.map (·.2.2) := by simp [ment, Function.comp_def]
    rw [e]; exact hM.nb)
/-- when all were handed out -/
theorem perm_of_range {S L : List (κ × ν × Nat)} (hs : S.Nodup) (hl : L.Nodup) (h1 : ∀ x, x ∈ S → x ∈ L) (h2 : ∀ x, x ∈ L → x ∈ S) : S.Perm L :=
  (List.perm_ext_iff_of_nodup hs hl).2 fun x => ⟨h1 x, h2 x⟩
end
/-! ### functions that the model stands in for -/
section
variable {P : Program} {N : Nat} {ops : Array Oper} {Q : Post} {rest : List Oper} {f : Env} {w : World} {ty : TypeId} {pos : String} {aft : Array Edge}
theorem WL_extern {d : Option Tmp} {g : FuncId} {fn : Func} {args : List Operand} {ts : Array TypeId} {vs : List Value} {v : Value} {w' : World} {e : Array Value → Sem Value}
    (hfn : P.funcs[g]? = some fn) (hname : (fn.name == "runtime.NumGoroutine") = false) (hb : fn.body.isNone = true) (hn : Extern.findNext fn = none) (he : Extern.find fn = some e) (hx : args.map (evo N f) = vs)
    (hrun : (e vs.toArray).run P w = .ok v w') (h : WL P N ops Q rest (putE f d v) w') :
    WL P N ops Q (⟨d, .call { callee := .value (.func g), args := args.toArray, argTypes := ts }, ty, pos, aft, none⟩ :: rest) f w := by
  refine WL_run (v := v) (w' := w') rfl ?_ h
  subst hx
  have := run_callFunc_extern hfn hname hb hn he (args.map (evo N f)).toArray w
  simp [execOp, resolve, evo, Deferred.ofValue, invoke] at this ⊢
  rw [this, hrun]
  rfl
/-! ### results that lie in memory -/
inductive All2 {α β : Type} (R : α → β → Prop) : List α → List β → Prop where
  | nil : All2 R [] []
  | cons {a b l m} (h : R a b) (t : All2 R l m) : All2 R (a :: l) (b :: m)
theorem All2.imp {α β : Type} {R S : α → β → Prop} (h : ∀ a b, R a b → S a b) : ∀ {l m}, All2 R l m → All2 S l m
  | _, _, .nil => .nil
  | _, _, .cons a t => .cons (h _ _ a) (t.imp h)
theorem mapM_ok {α β : Type} (F : α → Sem β) (w : World) : ∀ (l : List α) (vs : List β), All2 (fun a v => (F a).run P w = .ok v w) l vs → (l.mapM F).run P w = .ok vs w
  | _, _, .nil => by simp
  | _, _, .cons (a := a) (b := v) (l := l) (m := vs) h1 h2 => by simp [h1, mapM_ok F w l vs h2, Result.andThen]
inductive ResV (P : Program) (N : Nat) (f : Env) (w : World) : ResultVar → Value → Prop where
  | tmp {t : Nat} {v : Value} (h : evo N f (.tmp t) = v) : ResV P N f w (.tmp t) v
  | cell {t : Nat} {T : TypeId} {td : TypeDesc} {b o : Nat} {v : Value} (h : evo N f (.tmp t) = .pointer (some ⟨b, o, none⟩)) (hT : P.underlying T = some td) (hn : td.isRow = false) (hc : w.cell? ⟨b, o, none⟩ = some v) : ResV P N f w (.cell t T) v
  | agg {t : Nat} {T : TypeId} {td : TypeDesc} {b o n : Nat} {vs : List Value} (h : evo N f (.tmp t) = .pointer (some ⟨b, o, none⟩)) (hT : P.underlying T = some td) (hn : td.isRow = true) (hs : (P.info? T).map (·.size) = some n) (hl : vs.length = n) (hc : w.rangeAt b o vs) : ResV P N f w (.cell t T) (.agg vs.toArray)
def resOf : List Value → Value
  | [v] => v
  | vs => .tuple vs.toArray
theorem results_run {fn : Func} {rs : List ResultVar} {vs : List Value} (hr : fn.results = rs.toArray) (h : All2 (ResV P N f w) rs vs) : (results fn (mk N f).tmps).run P w = .ok (resOf vs) w := by
  unfold results
  rw [hr, Sem.run_bind, List.mapM_toArray]
  simp only [map_eq_pure_bind, Sem.run_bind]
  rw [mapM_ok _ w rs vs (All2.imp ?_ h)]
  · simp only [Result.andThen_ok, Sem.run_pure]
    congr 1
    cases vs with
    | nil => rfl
    | cons v vs => cases vs <;> rfl
  · skip
    intro r v hv
    cases hv with
    | tmp h => simp [getD_mk h]
    | cell h hT hn hc =>
      rename_i t T td b o
      have := x_load (N := N) (f := f) (d := 0) (x := .tmp t) (ty := 0) (pos := "") (aft := #[]) (g := none) (T := T) hT hn h hc
      simp only [execOp, Sem.run_bind, h] at this
      simp only [Instr.loadAt, Instr.sureAddr, Sem.run_bind, Sem.run_pure, Result.andThen_ok] at this
      simp only [getD_mk h, asAddr, Sem.run_bind, Sem.run_pure, Result.andThen_ok]
      cases hl : (loadVar T ⟨b, o, none⟩).run P w with
      | ok v' w' => simp [hl, Result.andThen] at this; obtain ⟨rfl, rfl⟩ := this; rfl
      | halt x w' => simp [hl, Result.andThen] at this
    | agg h hT hn hs hl hc =>
      rename_i t T td b o n vs'
      have := x_loadA (N := N) (f := f) (d := 0) (x := .tmp t) (ty := 0) (pos := "") (aft := #[]) (g := none) (T := T) hT hn hs hl h hc
      simp only [execOp, Sem.run_bind, h] at this
      simp only [Instr.loadAt, Instr.sureAddr, Sem.run_bind, Sem.run_pure, Result.andThen_ok] at this
      simp only [getD_mk h, asAddr, Sem.run_bind, Sem.run_pure, Result.andThen_ok]
      cases hl : (loadVar T ⟨b, o, none⟩).run P w with
      | ok v' w' => simp [hl, Result.andThen] at this; obtain ⟨rfl, rfl⟩ := this; rfl
      | halt x w' => simp [hl, Result.andThen] at this
theorem endsR {fn : Func} {R : Ending → World → Prop} {rs : List ResultVar} {vs : List Value} (hr : fn.results = rs.toArray) (h : All2 (ResV P N f w) rs vs) (hR : R (.returned (resOf vs)) w) : Ends P fn N R .ret f w := ⟨_, results_run hr h, hR⟩
theorem endnR {fn : Func} {R : Ending → World → Prop} {rs : List ResultVar} {vs : List Value} (hr : fn.results = rs.toArray) (h : All2 (ResV P N f w) rs vs) (hR : R (.returned (resOf vs)) w) : Ends P fn N R .normal f w := ⟨_, results_run hr h, hR⟩
end
end Go.HW
namespace Go.HW
open Go Go.RowKit
section
variable {P : Program} {N : Nat} {Q : Post} {f : Env} {w : World} {ty : TypeId} {pos : String} {aft : Array Edge} {g : Option (Nat × Bool)}
/-! ### an array of its parts -/
theorem buildArr_run {T E : TypeId} {n s : Nat} {zero cells : List Value} {parts : List (Nat × Value)} (hT : P.underlying T = some (.array n E)) (hs : (P.info? E).map (·.size) = some s)
    (hz : (P.info? T).map (·.zero.map (·.cells)) = some (some zero.toArray)) (hf : fillL (fun i => some (i * s, s)) zero parts = some cells) (w : World) : (Instr.build T parts.toArray).run P w = .ok (.agg cells.toArray) w := by
  cases hi : P.info? T with
  | none => simp [hi] at hz
  | some i =>
    simp only [hi, Option.map_some, Option.some.injEq] at hz
    cases hz0 : i.zero with
    | none => simp [hz0] at hz
    | some z =>
      simp only [hz0, Option.map_some, Option.some.injEq] at hz
      cases hE : P.info? E with
      | none => simp [hE] at hs
      | some j =>
        simp [hE] at hs
        have hzr : (zeroValue T).run P w = .ok z w := by simp [zeroValue, typeInfo, hi, hz0]
        have hff := fill_eq _ _ _ _ hf
        unfold Instr.build
        rw [Sem.run_bind, hzr, Result.andThen_ok, Sem.run_bind, run_underlying hT, Result.andThen_ok]
        simp only
        rw [Sem.run_bind, show (sizeOf E).run P w = .ok s w by simp [sizeOf, typeInfo, hE, hs], Result.andThen_ok, hz]
        simp only [hff]
        rfl
theorem x_buildArr {d : Tmp} {T E : TypeId} {n s : Nat} {parts : List (Nat × Operand)} {zero cells : List Value} {vs : List (Nat × Value)} (hT : P.underlying T = some (.array n E)) (hs : (P.info? E).map (·.size) = some s)
    (hz : (P.info? T).map (·.zero.map (·.cells)) = some (some zero.toArray)) (hx : parts.map (fun x => (x.1, evo N f x.2)) = vs) (hf : fillL (fun i => some (i * s, s)) zero vs = some cells) :
    (execOp (evo N f) ⟨some d, .build T parts.toArray, ty, pos, aft, g⟩).run P w = .ok (.value ((.agg cells.toArray))) w :=
  x_build (v := .agg cells.toArray) (fun w => by
    subst hx
    have := buildArr_run (P := P) hT hs hz hf w
    simpa using this)
end
section
variable {w0 w : World} {M : List Nat} {cs ro : List Ck} {b : Nat} {l vs : List Value} {T : TypeId}
/-- a part of a block known whole -/
theorem St.range (H : St w0 M cs ro w) {o k : Nat} (hm : Has (blk b l T) cs) (hv : (l.drop o).take k = vs) : w.rangeAt b o vs := range_blk (H.get hm.mem) o k vs hv
theorem St.cellB (H : St w0 M cs ro w) {o : Nat} {v : Value} (hm : Has (blk b l T) cs) (hv : l[o]? = some v) : w.cell? ⟨b, o, none⟩ = some v := H.cellAt hm hv
end
end Go.HW
namespace Go.HW
open Go Go.RowKit
section
variable {w0 w w' : World} {M : List Nat} {cs ro : List Ck}
theorem Cells.take {A : Option Addr} {l : List Value} (h : Cells w A l) (k : Nat) : Cells w A (l.take k) := by
  refine ⟨fun j v hj => h.at_ j v ?_, fun hne => h.some_ (by intro e; subst e; simp at hne)⟩
  rw [List.getElem?_take] at hj
  split at hj
  · exact hj
  · cases hj
/-- new pieces that are read alone -/
theorem St.rnews {ds : List Ck} (H : St w0 M cs ro w) (hf : Fr [] w w') (hok : ∀ c, c ∈ ds → c.ok w') (hfp : ∀ c, c ∈ ds → ∀ b, b ∈ c.fp → w.heap.size ≤ b) : St w0 M cs (ds ++ ro) w' := by
  have H' := H.quiet hf
  refine ⟨H'.fr, H'.ok, ?_, H'.own, H'.apart, ?_⟩
  · intro x hx
    rcases List.mem_append.1 hx with hx | hx
    · exact hok x hx
    · exact H'.rok x hx
  · intro x hx d hd y hy hm
    rcases List.mem_append.1 hd with hd | hd
    · have := (H.ok x hx).lt y hy; have := hfp d hd y hm; omega
    · exact H.rapart x hx d hd y hy hm
theorem cells_fresh {A : Option Addr} {c : Nat} {e : TypeId} {size n : Nat} {xs : List Value} {w1 w : World} (h : Cells w A xs) (hf : ∀ b, b ∈ (row A c e size n xs).fp → w1.heap.size ≤ b) : ∀ b, b ∈ (cells A xs).fp → w1.heap.size ≤ b :=
  fun b hb => hf b (cells_fp h b hb)
theorem encs_ones {α : Type} (enc : α → List Value) (h : ∀ x, ∀ v, v ∈ enc x → v.oneCell' = true) (l : List α) : ∀ u ∈ encs enc l, u.oneCell' = true := by
  induction l with
  | nil => intro u hu; simp [encs] at hu
  | cons x l ih =>
    intro u hu
    simp only [encs, List.flatMap_cons, List.mem_append] at hu
    rcases hu with hu | hu
    · exact h x u hu
    · exact ih u hu
end
end Go.HW
namespace Go.HW
open Go Go.RowKit
/-- a byte of a string -/
theorem x_index_str {P : Program} {N : Nat} {f : Env} {w : World} {ty : TypeId} {pos : String} {aft : Array Edge} {g : Option (Nat × Bool)} {d : Tmp} {T : TypeId} {x y : Operand} {s : ByteArray} {n : Nat} {k : IntKind} {i : Int} (hT : P.underlying T = some .string) (hx : evo N f x = .string s) (hy : evo N f y = .int k i) (hn : s.size = n) (h0 : 0 ≤ i) (h1 : i < n) :
    (execOp (evo N f) ⟨some d, .index T x y, ty, pos, aft, g⟩).run P w = .ok (.value (.int .u8 ((s[i.toNat]?.getD 0).toNat))) w := by
  refine run_v ?_
  rw [hx, hy]
  subst hn
  have hlt : i.toNat < s.size := by omega
  have hs : s[i.toNat]? = some s[i.toNat] := by simp [hlt]
  simp [Instr.index, asIntOf, run_underlying hT, h0, hs]
theorem u8_wrap_in (z : Int) : 0 ≤ IntKind.u8.wrap z ∧ IntKind.u8.wrap z < 256 := by rw [IntKind.wrap_u8]; omega
end Go.HW
namespace Go.HW
open Go Go.RowKit
section
variable {P : Program} {N : Nat} {f : Env} {w : World} {ty : TypeId} {pos : String} {aft : Array Edge} {g : Option (Nat × Bool)}
/-! ### strings -/
theorem x_slice_str_h {d : Tmp} {T : TypeId} {x y : Operand} {s : ByteArray} {k : IntKind} {h : Int} (hT : P.underlying T = some .string) (hx : evo N f x = .string s) (hy : evo N f y = .int k h) (h0 : 0 ≤ h) (h1 : h ≤ s.size) :
    (execOp (evo N f) ⟨some d, .slice T x none (some y) none, ty, pos, aft, g⟩).run P w = .ok (.value (.string (s.extract 0 h.toNat))) w :=
  run_v (by
    simp only [Option.map_none, Option.map_some, hx, hy]
    rw [run_sliceAt_string (P := P) (w := w) T _ _ _ _ hT, run_slice_string_h (P := P) w T s hT k h h0 h1])
theorem x_slice_str_l {d : Tmp} {T : TypeId} {x y : Operand} {s : ByteArray} {k : IntKind} {l : Int} (hT : P.underlying T = some .string) (hx : evo N f x = .string s) (hy : evo N f y = .int k l) (h0 : 0 ≤ l) (h1 : l ≤ s.size) :
    (execOp (evo N f) ⟨some d, .slice T x (some y) none none, ty, pos, aft, g⟩).run P w = .ok (.value (.string (s.extract l.toNat s.size))) w :=
  run_v (by
    simp only [Option.map_none, Option.map_some, hx, hy]
    rw [run_sliceAt_string (P := P) (w := w) T _ _ _ _ hT, run_slice_string_l (P := P) w T s hT k l h0 h1])
theorem x_str_eql {d : Tmp} {x y : Operand} {t t' : TypeId} {a b : ByteArray} (hx : evo N f x = .string a) (hy : evo N f y = .string b) :
    (execOp (evo N f) ⟨some d, .binOp .eql t x y t', ty, pos, aft, g⟩).run P w = .ok (.value (.bool (a.toList == b.toList))) w :=
  run_v (by rw [hx, hy, show eqGuard .eql t x y (.string a) (.string b) = pure () from rfl]; simp [binOp_string_eql])
end
/-- the first space of a text -/
def byteN (s : ByteArray) (i : Nat) : Nat := (s[i]?.getD 0).toNat
def firstSp (s : ByteArray) : Nat := ((List.range s.size).find? fun i => byteN s i == 32).getD s.size
theorem firstSp_eq {s : ByteArray} {i : Nat} (h : i < s.size) (h1 : byteN s i = 32) (h2 : ∀ j, j < i → byteN s j ≠ 32) : firstSp s = i := by
  unfold firstSp
  have : (List.range s.size).find? (fun i => byteN s i == 32) = some i := by
    rw [List.find?_range_eq_some]
    simp [h, h1]
    exact h2
  rw [this]; rfl
def hasB (s : ByteArray) (c : Int) : Bool := (List.range s.size).any fun i => decide ((byteN s i : Int) = c)
theorem hasB_yes {s : ByteArray} {c : Int} {i : Nat} (h : i < s.size) (h1 : (byteN s i : Int) = c) : hasB s c = true := by
  unfold hasB; rw [List.any_eq_true]; exact ⟨i, by simpa using h, by simpa using h1⟩
theorem hasB_no {s : ByteArray} {c : Int} (h : ∀ j, j < s.size → (byteN s j : Int) ≠ c) : hasB s c = false := by
  unfold hasB; rw [List.any_eq_false]; intro i hi; simpa using h i (by simpa using hi)
end Go.HW
namespace Go.HW
open Go
theorem ba_list (s : ByteArray) : s.toList = s.data.toList := by
  have := ByteArray.toList_loop_eq s (s.size - 0) 0 [] rfl (Nat.zero_le _)
  unfold ByteArray.toList
  rw [this]; simp
theorem ba_nil {s : ByteArray} (h : s.toList = []) : s.size = 0 := by
  rw [ba_list] at h
  cases s with
  | mk d => simp at h; subst h; rfl
theorem ba_empty : (ByteArray.mk #[]).toList = [] := by rw [ba_list]
end Go.HW
