import Derived.Test.YtecdgmdkepiopaaHWOps
import Derived.Deep.MidRow
import Derived.Laws.Slices
import Derived.Laws.MakeOwn
set_option linter.unusedSimpArgs false
set_option linter.unusedVariables false
namespace Go.HW
open Go Go.RowKit

/-! ### lists of cells -/
def splice (l : List Value) (o : Nat) (vs : List Value) : List Value := l.take o ++ vs ++ l.drop (o + vs.length)
theorem splice_length {l vs : List Value} {o : Nat} (h : o + vs.length ≤ l.length) : (splice l o vs).length = l.length := by simp [splice]; omega
theorem splice_one (l : List Value) (o : Nat) (v : Value) (h : o < l.length) : splice l o [v] = l.set o v := by
  rw [splice, List.set_eq_take_append_cons_drop, if_pos h]; simp
theorem splice_all (l vs : List Value) (h : vs.length = l.length) : splice l 0 vs = vs := by simp [splice, h]

section
variable {w : World}
theorem Blk.cell {b : Nat} {l : List Value} {T : TypeId} (h : Blk w b l T) (o : Nat) : w.cell? ⟨b, o, none⟩ = l[o]? := by
  unfold Blk at h; simp [World.cell?, h]
theorem Blk.frozen {b : Nat} {l : List Value} {T : TypeId} (h : Blk w b l T) (o : Nat) : w.frozen? ⟨b, o, none⟩ = false := by
  unfold Blk at h; simp [World.frozen?, h]
theorem Blk.setCell {b : Nat} {l : List Value} {T : TypeId} (h : Blk w b l T) (o : Nat) (v : Value) : Blk (w.setCell ⟨b, o, none⟩ v) b (l.set o v) T := by
  unfold Blk at *
  simp [World.setCell, Array.getElem?_modify, h]
theorem Blk.setCells {b : Nat} {T : TypeId} : ∀ (vs : List Value) (o : Nat) {w : World} {l : List Value}, Blk w b l T → o + vs.length ≤ l.length → Blk (w.setCells b o vs) b (splice l o vs) T
  | [], o, w, l, h, _ => by
    have : splice l o [] = l := by simp [splice]
    rw [this]; exact h
  | v :: r, o, w, l, h, hl => by
    simp only [List.length_cons] at hl
    have h1 := (h.setCell o v).setCells r (o + 1) (by simp; omega)
    have e : splice (l.set o v) (o + 1) r = splice l o (v :: r) := by
      simp only [splice, List.length_cons]
      rw [List.drop_set_of_lt (by omega)]
      rw [List.set_eq_take_append_cons_drop, if_pos (by omega)]
      rw [List.take_append]
      simp [List.take_take, show min (o + 1) o = o by omega, show o - (l.length) = 0 by omega, show min o l.length = o by omega, Nat.add_assoc, Nat.add_comm 1]
    rw [e] at h1
    exact h1
theorem Fr.setCells (b : Nat) : ∀ (vs : List Value) (o : Nat) (w : World), Fr [b] w (w.setCells b o vs)
  | [], _, w => Fr.refl _ _
  | v :: r, o, w => (Fr.setCell w ⟨b, o, none⟩ v).trans (Fr.setCells b r (o + 1) _) (by simp)
end

section
variable {P : Program} {N : Nat} {ops : Array Oper} {Q : Post} {rest : List Oper} {f : Env} {w : World}
variable {ty : TypeId} {pos : String} {aft : Array Edge} {g : Option (Nat × Bool)}
variable {w0 : World} {M : List Nat} {cs ro cs' : List Ck}

/-! ### read -/
/-- one cell -/
theorem x_load {d : Tmp} {x : Operand} {T : TypeId} {td : TypeDesc} {b o : Nat} {v : Value} (hT : P.underlying T = some td) (hn : td.isRow = false) (hx : evo N f x = .pointer (some ⟨b, o, none⟩))
    (hc : w.cell? ⟨b, o, none⟩ = some v) :
    (execOp (evo N f) ⟨some d, .load T x, ty, pos, aft, g⟩).run P w = .ok (.value (v)) w :=
  (run_v (by
    rw [hx]
    simp only [Instr.loadAt, Instr.sureAddr, Sem.run_bind, Sem.run_pure, Result.andThen_ok, loadVar, isAgg_run hT]
    cases td <;> simp_all [TypeDesc.isRow]))
/-- a struct or an array -/
theorem x_loadA {d : Tmp} {x : Operand} {T : TypeId} {td : TypeDesc} {b o n : Nat} {vs : List Value} (hT : P.underlying T = some td) (hn : td.isRow = true) (hs : (P.info? T).map (·.size) = some n) (hl : vs.length = n) (hx : evo N f x = .pointer (some ⟨b, o, none⟩))
    (hc : w.rangeAt b o vs) :
    (execOp (evo N f) ⟨some d, .load T x, ty, pos, aft, g⟩).run P w = .ok (.value ((.agg vs.toArray))) w :=
  (run_v (by subst hl; rw [hx]; exact run_loadAt_mid w b o T vs td hc hT hn hs))
theorem range_blk {b : Nat} {l : List Value} {T : TypeId} (h : Blk w b l T) (o n : Nat) (vs : List Value) (hv : (l.drop o).take n = vs) : w.rangeAt b o vs := by
  intro j v hj
  rw [h.cell]
  subst hv
  rw [List.getElem?_take] at hj
  split at hj
  · rwa [List.getElem?_drop] at hj
  · cases hj
theorem range_cells {A : Option Addr} {l : List Value} (h : Cells w A l) (o n : Nat) (vs : List Value) (hv : (l.drop o).take n = vs) : w.rangeAt (aB A) (aO A + o) vs := by
  intro j v hj
  subst hv
  rw [List.getElem?_take] at hj
  split at hj
  · rw [List.getElem?_drop] at hj
    rw [Nat.add_assoc]
    exact h.at_ _ _ hj
  · cases hj

/-! ### write -/
theorem WL_store {x y : Operand} {T T0 : TypeId} {td : TypeDesc} {b o : Nat} {v : Value} {l l' : List Value} (hT : P.underlying T = some td) (hn : td.isRow = false) (hx : evo N f x = .pointer (some ⟨b, o, none⟩)) (hy : evo N f y = v)
    (hv : v.oneCell' = true) (hs : (P.info? T).map (·.size) = some 1) (H : St w0 M cs ro w) (hA : At (blk b l T0) (blk b l' T0) cs cs') (ho : o < l.length) (hl : l.set o v = l')
    (h : ∀ w', St w0 M cs' ro w' → WL P N ops Q rest f w') : WL P N ops Q (⟨none, .store T x y, ty, pos, aft, none⟩ :: rest) f w := by
  have hB : Blk w b l T0 := H.get hA.mem
  have hcell : w.cell? ⟨b, o, none⟩ = some l[o] := by rw [hB.cell]; exact List.getElem?_eq_getElem ho
  refine WL_runU (w' := w.setCell ⟨b, o, none⟩ v) rfl (run_u ?_) (h _ (H.turn hA (Fr.setCell w ⟨b, o, none⟩ v) (by simp [blk]) (blk_ok (hl ▸ hB.setCell o v)) (by simp [blk])))
  rw [hx, hy]
  have hc1 : v.cells = #[v] := by cases v <;> simp [Value.oneCell'] at hv <;> rfl
  cases hi : P.info? T with
  | none => simp [hi] at hs
  | some i =>
    simp [hi] at hs
    simp only [Instr.storeAt, Instr.sureAddr, Sem.run_bind, Sem.run_pure, Result.andThen_ok, storeVar, hc1, sizeOf, typeInfo, hi]
    simp [hs, hi, storeCells, run_store P w _ v _ hv, hcell, hB.frozen, Addr.add, Result.andThen]
theorem WL_storeA {x y : Operand} {T T0 : TypeId} {b o : Nat} {vs l l' : List Value} (hx : evo N f x = .pointer (some ⟨b, o, none⟩)) (hy : evo N f y = .agg vs.toArray)
    (hv : vs.all (·.oneCell') = true) (hs : (P.info? T).map (·.size) = some vs.length) (H : St w0 M cs ro w) (hA : At (blk b l T0) (blk b l' T0) cs cs') (ho : o + vs.length ≤ l.length) (hl : splice l o vs = l')
    (h : ∀ w', St w0 M cs' ro w' → WL P N ops Q rest f w') : WL P N ops Q (⟨none, .store T x y, ty, pos, aft, none⟩ :: rest) f w := by
  have hB : Blk w b l T0 := H.get hA.mem
  refine WL_runU (w' := w.setCells b o vs) rfl (run_u ?_) (h _ (H.turn hA (Fr.setCells b vs o w) (by simp [blk]) (blk_ok (hl ▸ hB.setCells vs o ho)) (by simp [blk])))
  rw [hx, hy]
  exact run_storeAt_mid w b o T vs.toArray (fun j hj => ⟨by
    rw [hB.cell, List.getElem?_eq_getElem (by simp at hj; omega)]; rfl, hB.frozen _⟩) (by simpa using hs) (by simpa using hv)

/-! ### new variables -/
theorem Blk.alloc (w : World) (l : List Value) (T : TypeId) : Blk (w.alloc (.cells l.toArray T)) w.heap.size l T := heap_alloc_new w _
theorem WL_alloc {d : Tmp} {T : TypeId} {l : List Value} (hz : (P.info? T).map (·.zero.map (·.cells)) = some (some l.toArray)) (H : St w0 M cs ro w)
    (h : ∀ b w', St w0 M (blk b l T :: cs) ro w' → WL P N ops Q rest (upd f d (.pointer (some ⟨b, 0, none⟩))) w') : WL P N ops Q (⟨some d, .alloc T, ty, pos, aft, none⟩ :: rest) f w := by
  refine WL_run (v := .pointer (some ⟨w.heap.size, 0, none⟩)) (w' := w.alloc (.cells l.toArray T)) rfl (run_v ?_) (h _ _ (H.new (Fr.alloc w _) (blk_ok (Blk.alloc w l T)) (by simp [blk])))
  cases hi : P.info? T with
  | none => simp [hi] at hz
  | some i =>
    simp only [hi, Option.map_some, Option.some.injEq] at hz
    cases hz0 : i.zero with
    | none => simp [hz0] at hz
    | some z =>
      simp only [hz0, Option.map_some, Option.some.injEq] at hz
      simp [Instr.alloc, zeroValue, typeInfo, hi, hz0, newVar, newRow, hz]
theorem WL_box {d : Tmp} {T : TypeId} {x : Operand} {v : Value} {l : List Value} (hx : evo N f x = v) (hl : v.cells = l.toArray) (H : St w0 M cs ro w)
    (h : ∀ b w', St w0 M (blk b l T :: cs) ro w' → WL P N ops Q rest (upd f d (.pointer (some ⟨b, 0, none⟩))) w') : WL P N ops Q (⟨some d, .box T x, ty, pos, aft, none⟩ :: rest) f w := by
  refine WL_run (v := .pointer (some ⟨w.heap.size, 0, none⟩)) (w' := w.alloc (.cells l.toArray T)) rfl (run_v ?_) (h _ _ (H.new (Fr.alloc w _) (blk_ok (Blk.alloc w l T)) (by simp [blk])))
  rw [hx]
  simp [Instr.box, newVar, newRow, hl]
/-- a value of its parts: what Instr.build gives is asked of the kernel, or by simp -/
theorem x_build {d : Tmp} {T : TypeId} {parts : Array (Nat × Operand)} {v : Value} (hb : ∀ w, (Instr.build T (parts.map fun (i, x) => (i, evo N f x))).run P w = .ok v w) :
    (execOp (evo N f) ⟨some d, .build T parts, ty, pos, aft, g⟩).run P w = .ok (.value (v)) w :=
  (run_v (hb w))
theorem WL_buildSlice {d : Tmp} {T E : TypeId} {n : Nat} {parts : Array (Nat × Operand)} {l : List Value}
    (hb : ∀ w, (Instr.buildSlice T n (parts.map fun (i, x) => (i, evo N f x))).run P w = .ok (.slice (some ⟨w.heap.size, 0, none⟩) n n) (w.alloc (.cells l.toArray E))) (H : St w0 M cs ro w)
    (h : ∀ b w', St w0 M (blk b l E :: cs) ro w' → WL P N ops Q rest (upd f d (.slice (some ⟨b, 0, none⟩) n n)) w') :
    WL P N ops Q (⟨some d, .buildSlice T n parts, ty, pos, aft, none⟩ :: rest) f w :=
  WL_run rfl (run_v (hb w)) (h _ _ (H.new (Fr.alloc w _) (blk_ok (Blk.alloc w l E)) (by simp [blk])))

/-! ### addresses -/
theorem fieldAt_run {T : TypeId} {fs : Array Field} {fd : Field} {i n : Nat} {b o : Nat} (hT : P.underlying T = some (.struct fs)) (hf : fs[i]? = some fd) (hs : (P.info? fd.type).map (·.size) = some (n + 1)) (w : World) :
    (Instr.fieldAt T (.pointer (some ⟨b, o, none⟩)) i).run P w = .ok (.pointer (some ⟨b, o + fd.offset, none⟩)) w := by
  cases hi : P.info? fd.type with
  | none => simp [hi] at hs
  | some j =>
    simp [hi] at hs
    simp [Instr.fieldAt, run_underlying hT, hf, Instr.sureAddr, fieldPlace, sizeOf, typeInfo, hi, hs, Addr.add_mid]
theorem x_fieldAddr {d : Tmp} {x : Operand} {T : TypeId} {fs : Array Field} {fd : Field} {i n : Nat} {b o o' : Nat} (hT : P.underlying T = some (.struct fs)) (hf : fs[i]? = some fd) (hs : (P.info? fd.type).map (·.size) = some (n + 1))
    (hx : evo N f x = .pointer (some ⟨b, o, none⟩)) (ho : o + fd.offset = o') :
    (execOp (evo N f) ⟨some d, .fieldAddr T x i, ty, pos, aft, g⟩).run P w = .ok (.value ((.pointer (some ⟨b, o', none⟩)))) w :=
  (run_v (by rw [hx, fieldAt_run hT hf hs, ho]))
theorem x_field {d : Tmp} {x : Operand} {T : TypeId} {i : Nat} {v v' : Value} (hx : evo N f x = v) (hb : ∀ w, (Instr.field T v i).run P w = .ok v' w) :
    (execOp (evo N f) ⟨some d, .field T x i, ty, pos, aft, g⟩).run P w = .ok (.value (v')) w :=
  (run_v (by rw [hx]; exact hb w))
theorem x_indexAddr {d : Tmp} {x y : Operand} {T E : TypeId} {A : Option Addr} {n c s : Nat} {k : IntKind} {i : Int} {o' : Nat} (hT : P.underlying T = some (.slice E)) (hs : (P.info? E).map (·.size) = some s)
    (hx : evo N f x = .slice A n c) (hy : evo N f y = .int k i) (h0 : 0 ≤ i) (h1 : i < n) (hA : A = some ⟨aB A, aO A, none⟩) (ho : aO A + i.toNat * s = o') :
    (execOp (evo N f) ⟨some d, .indexAddr T x y, ty, pos, aft, g⟩).run P w = .ok (.value ((.pointer (some ⟨aB A, o', none⟩)))) w :=
  (run_v (by
    rw [hx, hy]
    cases hi : P.info? E with
    | none => simp [hi] at hs
    | some j =>
      simp [hi] at hs
      have hA' := hA
      generalize aB A = b at *
      generalize aO A = o at *
      subst hA'
      simp [Instr.indexAt, asIntOf, run_underlying hT, h0, h1, sizeOf, typeInfo, hi, hs, Addr.add_mid, ho]))
theorem x_indexAddr_arr {d : Tmp} {x y : Operand} {T E : TypeId} {m s : Nat} {k : IntKind} {i : Int} {b o o' : Nat} (hT : P.underlying T = some (.array m E)) (hs : (P.info? E).map (·.size) = some s)
    (hx : evo N f x = .pointer (some ⟨b, o, none⟩)) (hy : evo N f y = .int k i) (h0 : 0 ≤ i) (h1 : i < m) (ho : o + i.toNat * s = o') :
    (execOp (evo N f) ⟨some d, .indexAddr T x y, ty, pos, aft, g⟩).run P w = .ok (.value ((.pointer (some ⟨b, o', none⟩)))) w :=
  (run_v (by
    rw [hx, hy]
    cases hi : P.info? E with
    | none => simp [hi] at hs
    | some j =>
      simp [hi] at hs
      simp [Instr.indexAt, asIntOf, run_underlying hT, Instr.sureAddr, h0, h1, sizeOf, typeInfo, hi, hs, Addr.add_mid, ho]))
end
end Go.HW
