import Derived.Test.YtecdgmdkepiopaaHWList
import Derived.Laws.Slices
set_option linter.unusedSimpArgs false
set_option linter.unusedVariables false
namespace Go.HW
open Go Go.RowKit

theorem elem_eq {P : Program} {T E : TypeId} (hT : P.underlying T = some (.slice E)) : P.underlying T = some (.slice (P.elem T)) := by simp [Program.elem, hT]
theorem sizeOf_elem {P : Program} {T E : TypeId} {s : Nat} (hT : P.underlying T = some (.slice E)) (hs : (P.info? E).map (·.size) = some s) (w : World) : (sizeOf (P.elem T)).run P w = .ok s w := by
  have : P.elem T = E := by simp [Program.elem, hT]
  rw [this]
  cases hi : P.info? E with
  | none => simp [hi] at hs
  | some i => simp [hi] at hs; simp [sizeOf, typeInfo, hi, hs]
/-- where s[l:] begins -/
def subA (A : Option Addr) (l m s : Nat) : Option Addr := if m = l then A else A.map (·.add (l * s))
theorem sliced_eq (A : Option Addr) (l h m s : Nat) : sliced A l h m s = .slice (subA A l m s) (h - l) (m - l) := rfl
theorem subA_zero (A : Option Addr) (m s : Nat) : subA A 0 m s = A := by
  unfold subA
  split
  · rfl
  · cases A <;> simp [Addr.add]
section
variable {P : Program} {N : Nat} {ops : Array Oper} {Q : Post} {rest : List Oper} {f : Env} {w : World}
variable {ty : TypeId} {pos : String} {aft : Array Edge} {g : Option (Nat × Bool)}
variable {w0 : World} {M : List Nat} {cs ro cs' : List Ck}

/-! ### slices of slices -/
theorem x_slice_h {d : Tmp} {x y : Operand} {T E : TypeId} {A : Option Addr} {n c : Nat} {k : IntKind} {h : Int} (hT : P.underlying T = some (.slice E)) {s : Nat} (hs : (P.info? E).map (·.size) = some s) (hx : evo N f x = .slice A n c) (hy : evo N f y = .int k h) (h0 : 0 ≤ h) (h1 : h ≤ c) :
    (execOp (evo N f) ⟨some d, .slice T x none (some y) none, ty, pos, aft, g⟩).run P w = .ok (.value (.slice A h.toNat c)) w :=
  run_v (by
    simp only [Option.map_none, Option.map_some, hx, hy]
    rw [run_sliceAt_slice (P := P) (w := w) T _ _ _ _ (elem_eq hT), run_slice_h (P := P) (w := w) T A n c (elem_eq hT) k h h0 h1, sizeOf_elem hT hs, Result.andThen_ok, sliced_eq, subA_zero]
    simp)
theorem x_slice_l {d : Tmp} {x y : Operand} {T E : TypeId} {A : Option Addr} {n c : Nat} {k : IntKind} {l : Int} (hT : P.underlying T = some (.slice E)) {s : Nat} (hs : (P.info? E).map (·.size) = some s) (hx : evo N f x = .slice A n c) (hy : evo N f y = .int k l) (h0 : 0 ≤ l) (h1 : l ≤ n) :
    (execOp (evo N f) ⟨some d, .slice T x (some y) none none, ty, pos, aft, g⟩).run P w = .ok (.value (.slice (subA A l.toNat c s) (n - l.toNat) (c - l.toNat))) w :=
  run_v (by
    simp only [Option.map_none, Option.map_some, hx, hy]
    rw [run_sliceAt_slice (P := P) (w := w) T _ _ _ _ (elem_eq hT), run_slice_l (P := P) (w := w) T A n c (elem_eq hT) k l h0 h1, sizeOf_elem hT hs, Result.andThen_ok, sliced_eq])
theorem x_slice_lh {d : Tmp} {x y z : Operand} {T E : TypeId} {A : Option Addr} {n c : Nat} {k k' : IntKind} {l h : Int} (hT : P.underlying T = some (.slice E)) {s : Nat} (hs : (P.info? E).map (·.size) = some s) (hx : evo N f x = .slice A n c) (hy : evo N f y = .int k l) (hz : evo N f z = .int k' h) (h0 : 0 ≤ l) (h1 : l ≤ h) (h2 : h ≤ c) :
    (execOp (evo N f) ⟨some d, .slice T x (some y) (some z) none, ty, pos, aft, g⟩).run P w = .ok (.value (.slice (subA A l.toNat c s) (h.toNat - l.toNat) (c - l.toNat))) w :=
  run_v (by
    simp only [Option.map_none, Option.map_some, hx, hy, hz]
    rw [run_sliceAt_slice (P := P) (w := w) T _ _ _ _ (elem_eq hT), run_slice_lh (P := P) (w := w) T A n c (elem_eq hT) k k' l h h0 h1 h2, sizeOf_elem hT hs, Result.andThen_ok, sliced_eq])
theorem x_slice_all {d : Tmp} {x : Operand} {T E : TypeId} {A : Option Addr} {n c : Nat} (hT : P.underlying T = some (.slice E)) {s : Nat} (hs : (P.info? E).map (·.size) = some s) (hx : evo N f x = .slice A n c) :
    (execOp (evo N f) ⟨some d, .slice T x none none none, ty, pos, aft, g⟩).run P w = .ok (.value (.slice A n c)) w :=
  run_v (by
    simp only [Option.map_none, Option.map_some, hx]
    rw [run_sliceAt_slice (P := P) (w := w) T _ _ _ _ (elem_eq hT), run_slice_all (P := P) (w := w) T A n c (elem_eq hT), sizeOf_elem hT hs, Result.andThen_ok, sliced_eq, subA_zero]
    simp)

/-! ### a store into an own row -/
theorem row_here {A : Option Addr} {c : Nat} {E : TypeId} {size n : Nat} {xs : List Value} (h : w.ownsRow 0 E size (.slice A n c) n xs) (hne : xs ≠ []) :
    ∃ b cur, A = some ⟨b, 0, none⟩ ∧ Blk w b cur E ∧ cur.length = c * size ∧ cur.take (n * size) = xs ∧ n ≤ c ∧ c ≤ maxLen := by
  rcases h.2 with ⟨he, h0⟩ | ⟨b, cap, cur, he, _, hg, h1, h2, h3, h4⟩
  · have : xs = [] := by have := h.1; rw [h0] at this; simpa using this
    exact absurd this hne
  · simp only [Value.slice.injEq] at he
    obtain ⟨rfl, _, rfl⟩ := he
    exact ⟨b, cur.toList, rfl, by simpa [Blk] using hg, by simpa using h3, h4, h1, h2⟩
theorem row_put {A : Option Addr} {c : Nat} {E : TypeId} {size n : Nat} {xs : List Value} {b : Nat} {cur vs : List Value} {o : Nat} {w' : World} (hA : A = some ⟨b, 0, none⟩) (hlen : xs.length = n * size) (hcl : cur.length = c * size) (ht : cur.take (n * size) = xs) (hn : n ≤ c) (hc : c ≤ maxLen)
    (ho : o + vs.length ≤ xs.length) (hB : Blk w' b (splice cur o vs) E) : w'.ownsRow 0 E size (.slice A n c) n (splice xs o vs) := by
  have hle : n * size ≤ c * size := Nat.mul_le_mul_right _ hn
  refine ⟨by rw [splice_length ho, hlen], .inr ⟨b, c, (splice cur o vs).toArray, by rw [hA], Nat.zero_le _, hB, hn, hc, ?_, ?_⟩⟩
  · simp only [List.size_toArray]
    rw [splice_length (by omega), hcl]
  · simp only [List.toList_toArray]
    subst ht
    simp only [List.length_take] at ho
    have e1 : (cur.take o ++ vs).length = o + vs.length := by simp; omega
    unfold splice
    rw [List.take_append, List.take_of_length_le (by rw [e1]; omega), e1, List.take_take, List.drop_take, show min o (n * size) = o by omega]
theorem St.putRow (H : St w0 M cs ro w) {A : Option Addr} {c : Nat} {E : TypeId} {size n : Nat} {xs vs : List Value} {o : Nat} (hA : At (row A c E size n xs) (row A c E size n (splice xs o vs)) cs cs') (ho : o + vs.length ≤ xs.length) (hne : vs ≠ []) :
    A = some ⟨aB A, aO A, none⟩ ∧ aO A = 0 ∧ w.there (aB A) o vs.length ∧ St w0 M cs' ro (w.setCells (aB A) o vs) := by
  have hown : w.ownsRow 0 E size (.slice A n c) n xs := H.get hA.mem
  have hx : xs ≠ [] := by intro e; subst e; simp at ho; exact hne ho.2
  obtain ⟨b, cur, hA', hB, h1, h2, h3, h4⟩ := row_here hown hx
  have hle : n * size ≤ c * size := Nat.mul_le_mul_right _ h3
  have hcl : xs.length ≤ cur.length := by rw [← h2]; simp only [List.length_take]; omega
  refine ⟨by rw [hA']; rfl, by rw [hA']; rfl, ?_, ?_⟩
  · intro j hj
    rw [hA']
    exact ⟨by
      show (w.cell? ⟨b, o + j, none⟩).isSome = true
      rw [hB.cell, List.getElem?_eq_getElem (by omega)]; rfl, hB.frozen _⟩
  · have e : aB A = b := by rw [hA']; rfl
    rw [e]
    have hB' := hB.setCells vs o (by omega)
    exact H.turn hA (Fr.setCells b vs o w) (by simp [row, hA']) (row_ok (row_put hA' hown.1 h1 h2 h3 h4 ho hB')) (by simp [row, hA'])
theorem WL_storeR {x y : Operand} {T E : TypeId} {td : TypeDesc} {A : Option Addr} {c n size o o' : Nat} {v : Value} {xs xs' : List Value} (hT : P.underlying T = some td) (hn : td.isRow = false) (hx : evo N f x = .pointer (some ⟨aB A, o', none⟩)) (hy : evo N f y = v)
    (hv : v.oneCell' = true) (hs : (P.info? T).map (·.size) = some 1) (ho' : o' = aO A + o) (H : St w0 M cs ro w) (hA : At (row A c E size n xs) (row A c E size n xs') cs cs') (ho : o < xs.length) (hl : xs.set o v = xs')
    (h : ∀ w', St w0 M cs' ro w' → WL P N ops Q rest f w') : WL P N ops Q (⟨none, .store T x y, ty, pos, aft, none⟩ :: rest) f w := by
  subst hl
  rw [← splice_one xs o v ho] at hA
  obtain ⟨h1, h2, h3, h4⟩ := H.putRow (vs := [v]) hA (by simp; omega) (by simp)
  have hc := h3 0 (by simp)
  simp only [Nat.add_zero] at hc
  obtain ⟨u, hu⟩ := Option.isSome_iff_exists.1 hc.1
  subst ho'
  rw [h2, Nat.zero_add] at hx
  refine WL_runU (w' := w.setCell ⟨aB A, o, none⟩ v) rfl (run_u ?_) (h _ h4)
  rw [hx, hy]
  have hc1 : v.cells = #[v] := by cases v <;> simp [Value.oneCell'] at hv <;> rfl
  cases hi : P.info? T with
  | none => simp [hi] at hs
  | some i =>
    simp [hi] at hs
    simp only [Instr.storeAt, Instr.sureAddr, Sem.run_bind, Sem.run_pure, Result.andThen_ok, storeVar, hc1, sizeOf, typeInfo, hi]
    simp [hs, hi, storeCells, run_store P w _ v _ hv, hu, hc.2, Addr.add, Result.andThen]
theorem WL_storeRA {x y : Operand} {T E : TypeId} {A : Option Addr} {c n size o o' : Nat} {vs xs xs' : List Value} (hx : evo N f x = .pointer (some ⟨aB A, o', none⟩)) (hy : evo N f y = .agg vs.toArray)
    (hv : vs.all (·.oneCell') = true) (hne : vs ≠ []) (hs : (P.info? T).map (·.size) = some vs.length) (ho' : o' = aO A + o) (H : St w0 M cs ro w) (hA : At (row A c E size n xs) (row A c E size n xs') cs cs') (ho : o + vs.length ≤ xs.length) (hl : splice xs o vs = xs')
    (h : ∀ w', St w0 M cs' ro w' → WL P N ops Q rest f w') : WL P N ops Q (⟨none, .store T x y, ty, pos, aft, none⟩ :: rest) f w := by
  subst hl
  obtain ⟨h1, h2, h3, h4⟩ := H.putRow (vs := vs) hA ho hne
  subst ho'
  rw [h2, Nat.zero_add] at hx
  refine WL_runU (w' := w.setCells (aB A) o vs) rfl (run_u ?_) (h _ h4)
  rw [hx, hy]
  exact run_storeAt_mid w (aB A) o T vs.toArray (by simpa using h3) (by simpa using hs) (by simpa using hv)
/-- a shorter slice of an own row -/
theorem St.cutRow (H : St w0 M cs ro w) {A : Option Addr} {c : Nat} {E : TypeId} {size n m : Nat} {xs xs' : List Value} (hA : At (row A c E size n xs) (row A c E size m xs') cs cs') (hm : m ≤ n) (hx : xs.take (m * size) = xs') : St w0 M cs' ro w := by
  refine H.say hA (fun h => row_ok ?_) (by simp [row])
  have hown : w.ownsRow 0 E size (.slice A n c) n xs := h.r
  have hle : m * size ≤ n * size := Nat.mul_le_mul_right _ hm
  refine ⟨by rw [← hx, List.length_take, hown.1]; omega, ?_⟩
  rcases hown.2 with ⟨he, h0⟩ | ⟨b, cap, cur, he, hb, hg, h1, h2, h3, h4⟩
  · simp only [Value.slice.injEq] at he
    refine .inl ⟨?_, by omega⟩
    obtain ⟨rfl, _, rfl⟩ := he
    rw [show m = 0 by omega]
  · simp only [Value.slice.injEq] at he
    obtain ⟨rfl, _, rfl⟩ := he
    exact .inr ⟨b, c, cur, rfl, hb, hg, by omega, h2, h3, by rw [← hx, ← h4, List.take_take]; congr 1; omega⟩

/-! ### clear of the end of an own row -/
theorem WL_clear_end {x : Operand} {d : Option Tmp} {T E : TypeId} {A : Option Addr} {c n size k : Nat} {i : TypeInfo} {z : Value} {zs xs xs' : List Value} (hT : P.underlying T = some (.slice E)) (hi : P.info? E = some i) (hz : i.zero = some z) (hzc : z.cells = zs.toArray) (hzs : zs.length = size) (h1 : zs.all (·.oneCell') = true)
    (hx : evo N f x = .slice (subA A k c size) (n - k) (c - k)) (hk : k ≤ n) (hpos : 0 < size) (H : St w0 M cs ro w) (hA : At (row A c E size n xs) (row A c E size n xs') cs cs') (hl : xs.take (k * size) ++ (List.replicate (n - k) zs).flatten = xs')
    (h : ∀ w', St w0 M cs' ro w' → WL P N ops Q rest (putE f d (.tuple #[])) w') :
    WL P N ops Q (⟨d, .call { callee := .builtin .clear, args := #[x], argTypes := #[T] }, ty, pos, aft, none⟩ :: rest) f w := by
  have hown : w.ownsRow 0 E size (.slice A n c) n xs := H.get hA.mem
  have hxl := hown.1
  have hle : k * size ≤ n * size := Nat.mul_le_mul_right _ hk
  by_cases hkn : k = n
  · subst hkn
    have hxs : xs' = xs := by rw [← hl]; simp [← hxl]
    subst hxs
    refine WL_builtin (args := [x]) (vs := [.slice (subA A k c size) (k - k) (c - k)]) (w' := w) (v := .tuple #[]) (by simp [hx]) (fun cst => run_v ?_) (h w (H.turn (M' := []) hA (Fr.refl _ _) (by simp) (H.ok _ hA.mem) (fun b hb => .inl hb)))
    simp only [Nat.sub_self]
    cases hA' : subA A k c size <;> simp [Builtin.clear_, run_underlying hT]
  · have hvl : ((List.replicate (n - k) zs).flatten).length = (n - k) * size := by simp [hzs]
    have hsum : k * size + (n - k) * size = n * size := by rw [← Nat.add_mul]; congr 1; omega
    have hpos2 : 0 < (n - k) * size := Nat.mul_pos (by omega) hpos
    have hsp : splice xs (k * size) (List.replicate (n - k) zs).flatten = xs' := by
      rw [← hl, splice, hvl, List.drop_of_length_le (by omega), List.append_nil]
    subst hsp
    obtain ⟨ha, ho, hth, hst⟩ := H.putRow hA (by rw [hvl]; omega) (by intro e; rw [e] at hvl; simp at hvl; omega)
    have hxne : xs ≠ [] := by intro e; subst e; simp at hxl; omega
    obtain ⟨b, cur, hAb, hB, q1, q2, q3, q4⟩ := row_here hown hxne
    have hsub : subA A k c size = some ⟨b, k * size, none⟩ := by
      unfold subA
      rw [if_neg (by omega), hAb]
      simp [Addr.add_mid]
    have eb : aB A = b := by rw [hAb]; rfl
    rw [eb] at hth hst
    refine WL_builtin (args := [x]) (vs := [.slice (subA A k c size) (n - k) (c - k)]) (w' := w.setCells b (k * size) (List.replicate (n - k) zs).flatten) (v := .tuple #[]) (by simp [hx]) (fun cst => run_v ?_) (h _ hst)
    rw [hsub]
    have hzero : (Builtin.zeroCells z.cells (n - k)).toList = (List.replicate (n - k) zs).flatten := by
      have key : ∀ m : Nat, (Builtin.zeroCells zs.toArray m).toList = (List.replicate m zs).flatten := by
        intro m
        induction m with
        | zero => simp [Builtin.zeroCells]
        | succ m ih =>
          rw [List.replicate_succ', List.flatten_append, ← ih]
          simp only [Builtin.zeroCells, Array.toList_map, Array.toList_range, List.size_toArray, Nat.add_mul, Nat.one_mul, List.range_add, List.map_append, List.flatten_cons, List.flatten_nil, List.append_nil, List.map_map]
          congr 1
          apply List.ext_getElem
          · simp
          · intro j h1 h2
            simp at h1
            simp [Nat.mod_eq_of_lt h1, h1]
      rw [hzc]; exact key _
    have hst' := run_storeCells_cells (P := P) b (k * size) (List.replicate (n - k) zs).flatten 0 w (fun j hj => by simpa using (hth j hj).1) (fun j hj => by simpa using (hth j hj).2)
      (fun v hv => by
        simp only [List.mem_flatten, List.mem_replicate] at hv
        obtain ⟨l, ⟨_, rfl⟩, hv⟩ := hv
        exact (List.all_eq_true.1 h1) v hv)
    have hnk : n - k = (n - k - 1) + 1 := by omega
    rw [hnk] at hzero hst' ⊢
    simp [Builtin.clear_, run_underlying hT, zeroValue, typeInfo, hi, hz, hzero, hst']

/-! ### a call of a function value -/
theorem WL_callv {d : Option Tmp} {g : FuncId} {fn : Func} {x : Operand} {args : List Operand} {ts : Array TypeId} {vs : List Value} {R : Ending → World → Prop}
    {c : Code} (hv : evo N f x = .func (.func g) #[] #[]) (hfn : P.funcs[g]? = some fn) (hb : fn.body = some c) (hname : (fn.name == "runtime.NumGoroutine") = false) (hx : args.map (evo N f) = vs)
    (hc : Calls P g vs.toArray w R) (h : ∀ e w', R e w' → ∃ v, e = .returned v ∧ WL P N ops Q rest (putE f d v) w') :
    WL P N ops Q (⟨d, .call { callee := .value x, args := args.toArray, argTypes := ts }, ty, pos, aft, none⟩ :: rest) f w := by
  subst hx
  refine wpList_plain rfl fun K hK => ?_
  unfold Oper.wp
  have hr : (execOp (mk N f).eval ⟨d, .call { callee := .value x, args := args.toArray, argTypes := ts }, ty, pos, aft, none⟩).run P w = .ok (.enter g (args.map (evo N f)).toArray) w := by
    rw [mk_evalF]
    have hname' : ¬ fn.name = "runtime.NumGoroutine" := by simpa using hname
    simp [execOp, resolve, hv, Deferred.ofValue, invoke, callFunc, hfn, hname', hb]
  rw [hr, Oper.upon_enter]
  intro cs
  obtain ⟨e, w', fr, hR, hcm, hfr, hl⟩ := hc cs
  refine ⟨e, w', fr, ?_, hcm, hfr, hl⟩
  obtain ⟨v, rfl, hw⟩ := h e w' hR
  show K ((mk N f).put d v) w'
  rw [mk_put]
  exact hK _ _ hw
end
end Go.HW
namespace Go.HW
open Go Go.RowKit
/-! ### elements of several cells -/
theorem tk3 {p : Nat} (A E D : List Value) (h : A.length = p) : (A ++ E ++ D).take p = A := by rw [List.append_assoc, ← h, List.take_left]
theorem dr3 {p q : Nat} (A E D : List Value) (h : A.length = p) (h2 : E.length = q) : (A ++ E ++ D).drop (p + q) = D := by rw [← h, ← h2, ← List.length_append, List.drop_left]
section
variable {α : Type} (enc : α → List Value) {s : Nat}
def encs (l : List α) : List Value := l.flatMap enc
theorem encs_cons (x : α) (l : List α) : encs enc (x :: l) = enc x ++ encs enc l := by simp [encs]
theorem encs_append (l m : List α) : encs enc (l ++ m) = encs enc l ++ encs enc m := by simp [encs]
theorem encs_one (x : α) : encs enc [x] = enc x := by simp [encs]
theorem encs_nil : encs enc [] = [] := rfl
theorem encs_length (hs : ∀ x, (enc x).length = s) (l : List α) : (encs enc l).length = l.length * s := by
  induction l with
  | nil => simp [encs]
  | cons x l ih => rw [encs_cons, List.length_append, hs, ih, List.length_cons, Nat.add_mul]; omega
theorem encs_split (l : List α) (i : Nat) (h : i < l.length) : encs enc l = encs enc (l.take i) ++ enc l[i] ++ encs enc (l.drop (i + 1)) := by
  have e : l = l.take i ++ l[i] :: l.drop (i + 1) := by simp
  conv => lhs; rw [e]
  rw [encs_append, encs_cons, List.append_assoc]
theorem encs_get (hs : ∀ x, (enc x).length = s) (l : List α) (i : Nat) (h : i < l.length) : ((encs enc l).drop (i * s)).take s = enc l[i] := by
  have hp : (encs enc (l.take i)).length = i * s := by rw [encs_length enc hs, List.length_take, Nat.min_eq_left (by omega)]
  rw [encs_split enc l i h, List.append_assoc, List.drop_append, hp, Nat.sub_self, List.drop_of_length_le (by omega), List.nil_append, List.drop_zero, List.take_append, hs, Nat.sub_self, List.take_zero, List.append_nil, List.take_of_length_le (by rw [hs]; omega)]
theorem encs_at (hs : ∀ x, (enc x).length = s) (l : List α) (i o : Nat) (h : i < l.length) (ho : o < s) : (encs enc l)[i * s + o]? = (enc l[i])[o]? := by
  have := encs_get enc hs l i h
  rw [← this, List.getElem?_take_of_lt ho, List.getElem?_drop]
theorem encs_splice (hs : ∀ x, (enc x).length = s) (l : List α) (i : Nat) (x : α) (h : i < l.length) : splice (encs enc l) (i * s) (enc x) = encs enc (l.set i x) := by
  have hp : (encs enc (l.take i)).length = i * s := by rw [encs_length enc hs, List.length_take, Nat.min_eq_left (by omega)]
  have e2 : l.set i x = l.take i ++ x :: l.drop (i + 1) := by rw [List.set_eq_take_append_cons_drop, if_pos h]
  rw [e2, encs_append, encs_cons]
  have e3 := encs_split enc l i h
  unfold splice
  rw [hs, e3, tk3 _ _ _ hp, dr3 _ _ _ hp (hs _), List.append_assoc]
theorem encs_set (hs : ∀ x, (enc x).length = s) (l : List α) (i o : Nat) (x : α) (v : Value) (h : i < l.length) (ho : o < s) (hx : (enc l[i]).set o v = enc x) : (encs enc l).set (i * s + o) v = encs enc (l.set i x) := by
  rw [← encs_splice enc hs l i x h]
  have hp : (encs enc (l.take i)).length = i * s := by rw [encs_length enc hs, List.length_take, Nat.min_eq_left (by omega)]
  have e3 := encs_split enc l i h
  unfold splice
  rw [hs, e3, tk3 _ _ _ hp, dr3 _ _ _ hp (hs _)]
  rw [List.append_assoc, List.set_append_right _ _ (by omega), hp, show i * s + o - i * s = o by omega, List.set_append_left _ _ (by rw [hs]; exact ho), hx, List.append_assoc]
theorem encs_take (hs : ∀ x, (enc x).length = s) (l : List α) (k : Nat) : (encs enc l).take (k * s) = encs enc (l.take k) := by
  by_cases h : k ≤ l.length
  · have hp : (encs enc (l.take k)).length = k * s := by rw [encs_length enc hs, List.length_take, Nat.min_eq_left h]
    conv => lhs; rw [← List.take_append_drop k l, encs_append]
    rw [List.take_append, hp, Nat.sub_self, List.take_zero, List.append_nil, List.take_of_length_le (by omega)]
  · rw [List.take_of_length_le (by rw [encs_length enc hs]; exact Nat.mul_le_mul_right _ (by omega)), List.take_of_length_le (by omega)]
end
section
variable {w0 w : World} {M : List Nat} {cs ro : List Ck}
theorem St.orange (H : St w0 M cs ro w) {A : Option Addr} {c E s n o k : Nat} {xs vs : List Value} (hm : Has (row A c E s n xs) cs) (hv : (xs.drop o).take k = vs) : w.rangeAt (aB A) (aO A + o) vs := range_cells (owns_cells (H.get hm.mem)) o k vs hv
theorem St.rrange (H : St w0 M cs ro w) {A : Option Addr} {o k : Nat} {xs vs : List Value} (hm : Has (cells A xs) ro) (hv : (xs.drop o).take k = vs) : w.rangeAt (aB A) (aO A + o) vs := range_cells (H.rget hm.mem) o k vs hv
theorem St.ocell (H : St w0 M cs ro w) {A : Option Addr} {c E s n o : Nat} {xs : List Value} {v : Value} (hm : Has (row A c E s n xs) cs) (hv : xs[o]? = some v) : w.cell? ⟨aB A, aO A + o, none⟩ = some v := (owns_cells (H.get hm.mem)).at_ o v hv
end
end Go.HW
namespace Go.HW
open Go Go.RowKit
section
variable {w0 w : World} {M : List Nat} {cs ro : List Ck}
theorem St.one {c : Ck} (h : c.ok w) : St w c.fp [c] [] w := ⟨Fr.refl _ _, by simpa using h, by simp, by simp; intro b hb; exact .inl hb, by simp, by simp⟩
theorem St.oneRo {c : Ck} (h : c.ok w) (hr : ∀ d, d ∈ ro → d.ok w) (hd : ∀ d, d ∈ ro → ∀ b, b ∈ c.fp → b ∉ d.fp) : St w c.fp [c] ro w :=
  ⟨Fr.refl _ _, by simpa using h, hr, by simp; intro b hb; exact .inl hb, by simp, by intro c' hc'; simp at hc'; subst hc'; exact hd⟩
/-- The call's pieces, apart from one another, and what is read. -/
theorem St.many (h : ∀ c, c ∈ cs → c.ok w) (ha : cs.Pairwise fun c d => ∀ b, b ∈ c.fp → b ∉ d.fp) (hr : ∀ d, d ∈ ro → d.ok w) (hd : ∀ c, c ∈ cs → ∀ d, d ∈ ro → ∀ b, b ∈ c.fp → b ∉ d.fp) : St w (cs.flatMap (·.fp)) cs ro w :=
  ⟨Fr.refl _ _, h, hr, fun c hc b hb => .inl (List.mem_flatMap.2 ⟨c, hc, hb⟩), ha, hd⟩
end
end Go.HW
namespace Go.HW
open Go
theorem St.pop {w0 w : World} {M : List Nat} {c : Ck} {cs ro : List Ck} (H : St w0 M (c :: cs) ro w) : St w0 M cs ro w := H.drop (List.sublist_cons_self _ _) (fun _ h => h)
theorem St.pop1 {w0 w : World} {M : List Nat} {c d : Ck} {cs ro : List Ck} (H : St w0 M (d :: c :: cs) ro w) : St w0 M (d :: cs) ro w := H.drop (by simp) (fun _ h => h)
end Go.HW
namespace Go.HW
open Go
section
variable {w0 w w' : World} {M : List Nat} {cs ro cs' : List Ck}
/-- the first piece and another one are taken together -/
theorem St.merge {c d e : Ck} (H : St w0 M (c :: cs) ro w) (hA : At d e cs cs') (hok : c.ok w → d.ok w → e.ok w) (hfp : ∀ b, b ∈ e.fp → b ∈ c.fp ∨ b ∈ d.fp) : St w0 M cs' ro w := by
  obtain ⟨a, b, rfl, rfl⟩ := hA.split
  have hap := List.pairwise_cons.1 H.apart
  have h2 := hap.2
  rw [List.pairwise_append, List.pairwise_cons] at h2
  obtain ⟨ha, ⟨hdb, hb⟩, hab⟩ := h2
  have hoth : ∀ x, (x ∈ a ∨ x ∈ b) → ∀ y, y ∈ x.fp → y ∉ e.fp := by
    intro x hx y hy he
    rcases hfp y he with h | h
    · exact hap.1 x (by rcases hx with hx | hx <;> simp [hx]) y h hy
    · rcases hx with hx | hx
      · exact hab x hx d (by simp) y hy h
      · exact hdb x hx y h hy
  refine ⟨H.fr, ?_, H.rok, ?_, ?_, ?_⟩
  · intro x hx
    simp only [List.mem_append, List.mem_cons] at hx
    rcases hx with hx | rfl | hx
    · exact H.ok x (by simp [hx])
    · exact hok (H.ok c (by simp)) (H.ok d (by simp))
    · exact H.ok x (by simp [hx])
  · intro x hx y hy
    simp only [List.mem_append, List.mem_cons] at hx
    rcases hx with hx | rfl | hx
    · exact H.own x (by simp [hx]) y hy
    · rcases hfp y hy with h | h
      · exact H.own c (by simp) y h
      · exact H.own d (by simp) y h
    · exact H.own x (by simp [hx]) y hy
  · rw [List.pairwise_append, List.pairwise_cons]
    refine ⟨ha, ⟨fun x hx y hy hm => hoth x (.inr hx) y hm hy, hb⟩, fun x hx z hz y hy hm => ?_⟩
    simp only [List.mem_cons] at hz
    rcases hz with rfl | hz
    · exact hoth x (.inl hx) y hy hm
    · exact hab x hx z (by simp [hz]) y hy hm
  · intro x hx z hz y hy hm
    simp only [List.mem_append, List.mem_cons] at hx
    rcases hx with hx | rfl | hx
    · exact H.rapart x (by simp [hx]) z hz y hy hm
    · rcases hfp y hy with h | h
      · exact H.rapart c (by simp) z hz y h hm
      · exact H.rapart d (by simp) z hz y h hm
    · exact H.rapart x (by simp [hx]) z hz y hy hm
theorem St.fst {c d : Ck} (H : St w0 M (c :: cs) ro w) (hd : Has d cs) : ∀ b, b ∈ c.fp → b ∉ d.fp := (List.pairwise_cons.1 H.apart).1 d hd.mem
/-- two pieces as one -/
def both (c d : Ck) : Ck := ⟨c.fp ++ d.fp, fun w => c.R w ∧ d.R w ∧ ∀ b, b ∈ c.fp → b ∉ d.fp, fun w w' h ⟨h1, h2, h3⟩ =>
  ⟨c.loc w w' (fun b hb => h b (by simp [hb])) h1, d.loc w w' (fun b hb => h b (by simp [hb])) h2, h3⟩⟩
theorem both_ok {c d : Ck} (h1 : c.ok w) (h2 : d.ok w) (h3 : ∀ b, b ∈ c.fp → b ∉ d.fp) : (both c d).ok w :=
  ⟨⟨h1.r, h2.r, h3⟩, fun b hb => by
    simp only [both, List.mem_append] at hb
    rcases hb with hb | hb
    · exact h1.lt b hb
    · exact h2.lt b hb⟩
theorem both_1 {c d : Ck} (h : (both c d).ok w) : c.ok w := ⟨h.r.1, fun b hb => h.lt b (by simp [both, hb])⟩
theorem both_2 {c d : Ck} (h : (both c d).ok w) : d.ok w := ⟨h.r.2.1, fun b hb => h.lt b (by simp [both, hb])⟩
theorem St.joinB {c d : Ck} (H : St w0 M (c :: d :: cs) ro w) : St w0 M (both c d :: cs) ro w :=
  H.merge (e := both c d) .zero (fun h1 h2 => both_ok h1 h2 (H.fst .zero)) (by simp [both])
theorem St.splitB {c d : Ck} (H : St w0 M (both c d :: cs) ro w) : St w0 M (c :: d :: cs) ro w := by
  have h := H.ok _ (List.mem_cons_self)
  have hap := List.pairwise_cons.1 H.apart
  refine ⟨H.fr, ?_, H.rok, ?_, ?_, ?_⟩
  · intro x hx
    simp only [List.mem_cons] at hx
    rcases hx with rfl | rfl | hx
    · exact both_1 h
    · exact both_2 h
    · exact H.ok x (by simp [hx])
  · intro x hx y hy
    simp only [List.mem_cons] at hx
    rcases hx with rfl | rfl | hx
    · exact H.own _ List.mem_cons_self y (List.mem_append_left _ hy)
    · exact H.own _ List.mem_cons_self y (List.mem_append_right _ hy)
    · exact H.own x (by simp [hx]) y hy
  · refine List.pairwise_cons.2 ⟨fun x hx y hy hm => ?_, List.pairwise_cons.2 ⟨fun x hx y hy hm => ?_, hap.2⟩⟩
    · simp only [List.mem_cons] at hx
      rcases hx with rfl | hx
      · exact h.r.2.2 y hy hm
      · exact hap.1 x hx y (by simp [both, hy]) hm
    · exact hap.1 x hx y (by simp [both, hy]) hm
  · intro x hx z hz y hy hm
    simp only [List.mem_cons] at hx
    rcases hx with rfl | rfl | hx
    · exact H.rapart _ List.mem_cons_self z hz y (List.mem_append_left _ hy) hm
    · exact H.rapart _ List.mem_cons_self z hz y (List.mem_append_right _ hy) hm
    · exact H.rapart x (by simp [hx]) z hz y hy hm
theorem St.perm (H : St w0 M cs ro w) (hp : cs.Perm cs') : St w0 M cs' ro w :=
  ⟨H.fr, fun c hc => H.ok c (hp.mem_iff.2 hc), H.rok, fun c hc => H.own c (hp.mem_iff.2 hc), (hp.pairwise_iff (fun {x y} h b hb hm => h b hm hb)).1 H.apart, fun c hc => H.rapart c (hp.mem_iff.2 hc)⟩
theorem St.swap {c d : Ck} (H : St w0 M (c :: d :: cs) ro w) : St w0 M (d :: c :: cs) ro w := H.perm (List.Perm.swap d c cs)
/-- the third to the front -/
theorem St.rot3 {c d e : Ck} (H : St w0 M (c :: d :: e :: cs) ro w) : St w0 M (e :: c :: d :: cs) ro w := H.perm (by
  exact ((List.Perm.swap e d cs).cons c).trans (List.Perm.swap e c (d :: cs)))
end
end Go.HW
namespace Go.HW
open Go
theorem St.freshOf {w0 w : World} {M : List Nat} {c : Ck} {cs ro : List Ck} (H : St w0 M (c :: cs) ro w) (hM : ∀ b, b ∈ M → ∃ d, d ∈ cs ∧ b ∈ d.fp) : ∀ b, b ∈ c.fp → w0.heap.size ≤ b := fun b hb =>
  (H.own c List.mem_cons_self b hb).resolve_left fun hm => by
    obtain ⟨d, hd, hbd⟩ := hM b hm
    exact (List.pairwise_cons.1 H.apart).1 d hd b hb hbd
end Go.HW
namespace Go.HW
open Go
section
variable {w0 w w' : World} {M : List Nat} {cs ro cs' : List Ck}
/-- A call that turns c's blocks alone, leaves c' in them, and a new piece beside. -/
theorem St.turnNew {c c' d : Ck} {M' : List Nat} (H : St w0 M cs ro w) (hA : At c c' cs cs') (hf : Fr M' w w') (hM : ∀ b, b ∈ M' → b ∈ c.fp ∨ w.heap.size ≤ b) (hok : c'.ok w')
    (hfp : ∀ b, b ∈ c'.fp → b ∈ c.fp) (hokd : d.ok w') (hd : ∀ b, b ∈ d.fp → w.heap.size ≤ b) : St w0 M (d :: cs') ro w' := by
  have H1 := H.turn hA hf hM hok (fun b hb => .inl (hfp b hb))
  have hcs : ∀ x, x ∈ cs' → ∀ b, b ∈ x.fp → b < w.heap.size := by
    intro x hx b hb
    rcases hA.mem' x hx with rfl | hx
    · exact (H.ok c hA.mem).lt b (hfp b hb)
    · exact (H.ok x hx).lt b hb
  refine ⟨H1.fr, ?_, H1.rok, ?_, List.pairwise_cons.2 ⟨fun x hx b hb hm => ?_, H1.apart⟩, ?_⟩
  · intro x hx
    simp only [List.mem_cons] at hx
    rcases hx with rfl | hx
    · exact hokd
    · exact H1.ok x hx
  · intro x hx b hb
    simp only [List.mem_cons] at hx
    rcases hx with rfl | hx
    · exact .inr (Nat.le_trans H.fr.size (hd b hb))
    · exact H1.own x hx b hb
  · have := hd b hb; have := hcs x hx b hm; omega
  · intro x hx z hz b hb hm
    simp only [List.mem_cons] at hx
    rcases hx with rfl | hx
    · have := hd b hb; have := (H.rok z hz).lt b hm; omega
    · exact H1.rapart x hx z hz b hb hm
end
end Go.HW
namespace Go.HW
open Go
theorem St.rbcells {w0 w : World} {M : List Nat} {cs ro : List Ck} (H : St w0 M cs ro w) {b : Nat} {l : List Value} {T : TypeId} (hm : Has (blk b l T) ro) : Cells w (some ⟨b, 0, none⟩) l := blk_cells (H.rget hm.mem)
theorem cells_fp_blk {b b' : Nat} {l l' : List Value} {T : TypeId} (h : b ∈ (cells (some ⟨b', 0, none⟩) l).fp) : b ∈ (blk b' l' T).fp := by
  simp only [cells] at h
  split at h
  · simp at h
  · simpa [aB, blk] using h
theorem St.apartR {w0 w : World} {M : List Nat} {cs ro : List Ck} (H : St w0 M cs ro w) {c d : Ck} (hc : Has c cs) (hd : Has d ro) : ∀ b, b ∈ c.fp → b ∉ d.fp := H.rapart c hc.mem d hd.mem
end Go.HW
namespace Go.HW
open Go
section
variable {w0 w w' : World} {M : List Nat} {cs ro cs' : List Ck}
/-- A call that turns c's blocks alone, leaves c' in them or in new ones, and a new piece beside. -/
theorem St.turnNew2 {c c' d : Ck} {M' : List Nat} (H : St w0 M cs ro w) (hA : At c c' cs cs') (hf : Fr M' w w') (hM : ∀ b, b ∈ M' → b ∈ c.fp ∨ w.heap.size ≤ b) (hok : c'.ok w')
    (hfp : ∀ b, b ∈ c'.fp → b ∈ c.fp ∨ w.heap.size ≤ b) (hokd : d.ok w') (hd : ∀ b, b ∈ d.fp → w.heap.size ≤ b ∧ b ∉ c'.fp) : St w0 M (d :: cs') ro w' := by
  have H1 := H.turn hA hf hM hok hfp
  have hcs : ∀ x, x ∈ cs' → ∀ b, b ∈ d.fp → b ∉ x.fp := by
    intro x hx b hb hm
    rcases hA.mem' x hx with rfl | hx
    · exact (hd b hb).2 hm
    · have := (H.ok x hx).lt b hm; have := (hd b hb).1; omega
  refine ⟨H1.fr, ?_, H1.rok, ?_, List.pairwise_cons.2 ⟨fun x hx b hb hm => hcs x hx b hb hm, H1.apart⟩, ?_⟩
  · intro x hx
    simp only [List.mem_cons] at hx
    rcases hx with rfl | hx
    · exact hokd
    · exact H1.ok x hx
  · intro x hx b hb
    simp only [List.mem_cons] at hx
    rcases hx with rfl | hx
    · exact .inr (Nat.le_trans H.fr.size (hd b hb).1)
    · exact H1.own x hx b hb
  · intro x hx z hz b hb hm
    simp only [List.mem_cons] at hx
    rcases hx with rfl | hx
    · have := (hd b hb).1; have := (H.rok z hz).lt b hm; omega
    · exact H1.rapart x hx z hz b hb hm
theorem St.cellBoth (H : St w0 M cs ro w) {b o : Nat} {l : List Value} {T : TypeId} {d : Ck} {v : Value} (hm : Has (both (blk b l T) d) cs) (hv : l[o]? = some v) : w.cell? ⟨b, o, none⟩ = some v := by
  have hB : (both (blk b l T) d).R w := H.get hm.mem
  have hB1 : Blk w b l T := hB.1
  rw [hB1.cell]; exact hv
end
end Go.HW
