import Derived.Test.YtecdgmdkepiopaaHWSt
import Derived.Laws.Slices
import Derived.WalkSpells
import Derived.Laws.Cover3
set_option linter.unusedSimpArgs false
set_option linter.unusedVariables false
namespace Go.HW
open Go Go.RowKit

theorem run_v {P : Program} {S : Sem Value} {v : Value} {w w' : World} (h : S.run P w = .ok v w') : (do pure (Next.value (← S)) : Sem Next).run P w = .ok (.value v) w' := by
  rw [Sem.run_bind, h]; rfl
theorem run_u {P : Program} {S : Sem Unit} {w w' : World} (h : S.run P w = .ok () w') : (do S; pure Next.skip : Sem Next).run P w = .ok .skip w' := by
  rw [Sem.run_bind, h]; rfl
theorem isAgg_run {P : Program} {T : TypeId} {td : TypeDesc} (h : P.underlying T = some td) (w : World) : (isAgg T).run P w = .ok (match td with | .struct _ | .array _ _ => true | _ => false) w := by
  unfold isAgg
  rw [Sem.run_bind, run_underlying h]
  cases td <;> rfl

section
variable {P : Program} {N : Nat} {ops : Array Oper} {Q : Post} {rest : List Oper} {f : Env} {w : World}
variable {ty : TypeId} {pos : String} {aft : Array Edge} {g : Option (Nat × Bool)}

theorem WL_nil (h : Q .normal f w) : WL P N ops Q [] f w := ⟨f, rfl, h⟩

/-- One operation that gives a value and leaves the world w'. -/
theorem WL_run {o : Oper} {v : Value} {w' : World} (hg : o.guard = none) (hrun : (execOp (evo N f) o).run P w = .ok (.value v) w')
    (h : WL P N ops Q rest (putE f o.dst v) w') : WL P N ops Q (o :: rest) f w :=
  wpList_plain hg fun K hK => by
    unfold Oper.wp
    rw [mk_evalF, hrun]
    show K ((mk N f).put o.dst v) w'
    rw [mk_put]
    exact hK _ _ h
theorem WL_runU {o : Oper} {w' : World} (hg : o.guard = none) (hrun : (execOp (evo N f) o).run P w = .ok .skip w')
    (h : WL P N ops Q rest (putE f o.dst undef) w') : WL P N ops Q (o :: rest) f w :=
  wpList_plain hg fun K hK => by
    unfold Oper.wp
    rw [mk_evalF, hrun]
    show K ((mk N f).put o.dst undef) w'
    rw [mk_put]
    exact hK _ _ h

/-- One operation that only gives a value. -/
theorem WL_x {d : Tmp} {op : Op} {v : Value} (hrun : (execOp (evo N f) ⟨some d, op, ty, pos, aft, none⟩).run P w = .ok (.value v) w)
    (h : WL P N ops Q rest (upd f d v) w) : WL P N ops Q (⟨some d, op, ty, pos, aft, none⟩ :: rest) f w := WL_run rfl hrun h

/-! ### guards -/
def guardT (ops : Array Oper) (j : Nat) : Option Tmp := (ops[j]?).bind (·.dst)
theorem yielded_mk {t j : Nat} {b : Bool} (hj : guardT ops j = some t) (ht : Nat.blt t N = true) (hb : f t = .bool b) : yielded ops (mk N f).tmps j = some b := by
  unfold guardT at hj
  have ht' : t < N := by simpa [Nat.blt_eq] using ht
  simp only [yielded, hj, Option.bind_some, mk, List.getElem?_toArray, List.getElem?_map, List.getElem?_range ht', Option.map_some, hb]
theorem WL_guard {d : Option Tmp} {op : Op} {j t : Nat} {want b : Bool} (hj : guardT ops j = some t) (ht : Nat.blt t N = true) (hb : f t = .bool b)
    (hT : b = want → WL P N ops Q (⟨d, op, ty, pos, aft, none⟩ :: rest) (upd f t (.bool want)) w) (hF : b = (!want) → WL P N ops Q rest (putE (upd f t (.bool !want)) d undef) w) :
    WL P N ops Q (⟨d, op, ty, pos, aft, some (j, want)⟩ :: rest) f w := by
  have hy := yielded_mk (N := N) hj ht hb
  unfold WL
  by_cases h : b = want
  · have h1 := hT h
    subst h
    rw [upd_self hb] at h1
    unfold WL at h1
    unfold wpList at h1 ⊢
    rw [if_pos (by simp [Region.wanted])] at h1
    rw [if_pos (by simp [Region.wanted, hy])]
    exact h1
  · have hbn : b = !want := by cases b <;> cases want <;> simp_all
    have h1 := hF hbn
    rw [upd_self (by rw [hb, hbn])] at h1
    unfold WL at h1
    unfold wpList
    rw [if_neg (by simp [Region.wanted, hy, h])]
    rw [mk_put]
    exact h1
theorem WL_guard_yes {d : Option Tmp} {op : Op} {j t : Nat} {want : Bool} (hj : guardT ops j = some t) (ht : Nat.blt t N = true) (hb : f t = .bool want)
    (hT : WL P N ops Q (⟨d, op, ty, pos, aft, none⟩ :: rest) f w) : WL P N ops Q (⟨d, op, ty, pos, aft, some (j, want)⟩ :: rest) f w :=
  WL_guard hj ht hb (fun _ => by rw [upd_self hb]; exact hT) (fun h => by cases want <;> simp at h)
theorem WL_guard_no {d : Option Tmp} {op : Op} {j t : Nat} {want : Bool} (hj : guardT ops j = some t) (ht : Nat.blt t N = true) (hb : f t = .bool (!want))
    (hF : WL P N ops Q rest (putE f d undef) w) : WL P N ops Q (⟨d, op, ty, pos, aft, some (j, want)⟩ :: rest) f w :=
  WL_guard hj ht hb (fun h => by cases want <;> simp at h) (fun _ => by rw [upd_self hb]; exact hF)

theorem yielded_u {t j : Nat} (hj : guardT ops j = some t) (ht : Nat.blt t N = true) (hb : f t = undef) : yielded ops (mk N f).tmps j = none := by
  unfold guardT at hj
  have ht' : t < N := by simpa [Nat.blt_eq] using ht
  simp only [yielded, hj, Option.bind_some, mk, List.getElem?_toArray, List.getElem?_map, List.getElem?_range ht', Option.map_some, hb, undef]
theorem WL_guard_u {d : Option Tmp} {op : Op} {j t : Nat} {want : Bool} (hj : guardT ops j = some t) (ht : Nat.blt t N = true) (hb : f t = undef)
    (hF : WL P N ops Q rest (putE f d undef) w) : WL P N ops Q (⟨d, op, ty, pos, aft, some (j, want)⟩ :: rest) f w := by
  unfold WL at hF ⊢
  unfold wpList
  rw [if_neg (by simp [Region.wanted, yielded_u hj ht hb]), mk_put]
  exact hF
theorem WL_case {l : List Oper} {t : Nat} {b : Bool} (hb : f t = .bool b) (hT : b = true → WL P N ops Q l (upd f t (.bool true)) w) (hF : b = false → WL P N ops Q l (upd f t (.bool false)) w) : WL P N ops Q l f w := by
  cases b with
  | true => have := hT rfl; rwa [upd_self hb] at this
  | false => have := hF rfl; rwa [upd_self hb] at this
theorem WL_cased {l : List Oper} {t : Nat} {p : Prop} [Decidable p] (hb : f t = .bool (decide p)) (hT : p → WL P N ops Q l (upd f t (.bool true)) w) (hF : ¬ p → WL P N ops Q l (upd f t (.bool false)) w) : WL P N ops Q l f w :=
  WL_case hb (fun h => hT (of_decide_eq_true h)) (fun h => hF (of_decide_eq_false h))
theorem WL_casen {l : List Oper} {t : Nat} {p : Prop} [Decidable p] (hb : f t = .bool (!decide p)) (hT : ¬ p → WL P N ops Q l (upd f t (.bool true)) w) (hF : p → WL P N ops Q l (upd f t (.bool false)) w) : WL P N ops Q l f w :=
  WL_case hb (fun h => hT (by simpa using h)) (fun h => hF (by simpa using h))

/-! ### moves -/
theorem x_move {d : Tmp} {x : Operand} {v : Value} (hx : evo N f x = v) :
    (execOp (evo N f) ⟨some d, .move x, ty, pos, aft, g⟩).run P w = .ok (.value (v)) w :=
  (by simp [execOp, hx, pure])
theorem x_assign {d : Tmp} {x : Operand} {v : Value} (hx : evo N f x = v) :
    (execOp (evo N f) ⟨some d, .assign x, ty, pos, aft, g⟩).run P w = .ok (.value (v)) w :=
  (by simp [execOp, hx, pure])
theorem x_nilCheck {d : Tmp} {x : Operand} {a : Addr} (hx : evo N f x = .pointer (some a)) :
    (execOp (evo N f) ⟨some d, .nilCheck x, ty, pos, aft, g⟩).run P w = .ok (.value ((.pointer (some a)))) w :=
  (by simp [execOp, hx, pure])
theorem x_pick {d : Tmp} {c x y : Operand} {b : Bool} {v : Value} (hc : evo N f c = .bool b) (hv : (bif b then evo N f x else evo N f y) = v) :
    (execOp (evo N f) ⟨some d, .pick c x y, ty, pos, aft, g⟩).run P w = .ok (.value (v)) w :=
  (by subst hv; cases b <;> simp [execOp, hc, asBool, pure, bind, Sem.bind])
theorem x_extract {d : Tmp} {x : Operand} {i : Nat} {vs : List Value} {v : Value} (hx : evo N f x = .tuple vs.toArray) (hv : vs[i]? = some v) :
    (execOp (evo N f) ⟨some d, .extract x i, ty, pos, aft, g⟩).run P w = .ok (.value (v)) w :=
  (by simp [execOp, hx, Instr.extract, hv, pure, bind, Sem.bind])
/-! ### numbers -/
def BinRun (P : Program) (op : BinOp) (t : TypeId) (x y v : Value) : Prop := ∀ w, (do eqGuard op t (.const x) (.const y) x y; binOp op t x y : Sem Value).run P w = .ok v w
theorem eqGuard_int (op : BinOp) (t : TypeId) (x y : Operand) (k k' : IntKind) (a b : Int) : eqGuard op t x y (.int k a) (.int k' b) = pure () := by unfold eqGuard; split <;> rfl
theorem x_binop {d : Tmp} {x y : Operand} {op : BinOp} {t t' : TypeId} {k k' : IntKind} {a b : Int} {v : Value} (hx : evo N f x = .int k a) (hy : evo N f y = .int k' b)
    (hrun : ∀ w, (binOp op t (.int k a) (.int k' b)).run P w = .ok v w) :
    (execOp (evo N f) ⟨some d, .binOp op t x y t', ty, pos, aft, g⟩).run P w = .ok (.value (v)) w :=
  (run_v (by rw [hx, hy, eqGuard_int]; exact hrun w))
section
variable (t : TypeId) (k : IntKind) (a b : Int) (w : World)
theorem r_add : (binOp .add t (.int k a) (.int k b)).run P w = .ok (.int k (k.wrap (a + b))) w := by simp [binOp, Op.intArith]
theorem r_sub : (binOp .sub t (.int k a) (.int k b)).run P w = .ok (.int k (k.wrap (a - b))) w := by simp [binOp, Op.intArith]
theorem r_mul : (binOp .mul t (.int k a) (.int k b)).run P w = .ok (.int k (k.wrap (a * b))) w := by simp [binOp, Op.intArith]
theorem r_lss : (binOp .lss t (.int k a) (.int k b)).run P w = .ok (.bool (decide (a < b))) w := by simp [binOp, Op.intCmp]
theorem r_leq : (binOp .leq t (.int k a) (.int k b)).run P w = .ok (.bool (decide (a ≤ b))) w := by simp [binOp, Op.intCmp]
theorem r_gtr : (binOp .gtr t (.int k a) (.int k b)).run P w = .ok (.bool (decide (a > b))) w := by simp [binOp, Op.intCmp]
theorem r_geq : (binOp .geq t (.int k a) (.int k b)).run P w = .ok (.bool (decide (a ≥ b))) w := by simp [binOp, Op.intCmp]
theorem r_eql : (binOp .eql t (.int k a) (.int k b)).run P w = .ok (.bool (decide (a = b))) w := by
  simp [binOp, Op.intCmp]; exact (Bool.beq_eq_decide_eq a b)
theorem r_neq : (binOp .neq t (.int k a) (.int k b)).run P w = .ok (.bool (decide (a ≠ b))) w := by
  simp [binOp, Op.intCmp]; exact congrArg (! ·) (Bool.beq_eq_decide_eq a b)
theorem r_and : (binOp .and t (.int k a) (.int k b)).run P w = .ok (.int k (bits .and k a b)) w := by simp [binOp, Op.intBits, bits]
theorem r_or : (binOp .or t (.int k a) (.int k b)).run P w = .ok (.int k (bits .or k a b)) w := by simp [binOp, Op.intBits, bits]
theorem r_xor : (binOp .xor t (.int k a) (.int k b)).run P w = .ok (.int k (bits .xor k a b)) w := by simp [binOp, Op.intBits, bits]
theorem r_andNot : (binOp .andNot t (.int k a) (.int k b)).run P w = .ok (.int k (bits .andNot k a b)) w := by simp [binOp, Op.intBits, bits]
end
theorem r_quo {t : TypeId} {k : IntKind} {a b : Int} (hb : b ≠ 0) (w : World) : (binOp .quo t (.int k a) (.int k b)).run P w = .ok (.int k (k.wrap (a.tdiv b))) w := by simp [binOp, Op.intDiv, hb]
theorem r_rem {t : TypeId} {k : IntKind} {a b : Int} (hb : b ≠ 0) (w : World) : (binOp .rem t (.int k a) (.int k b)).run P w = .ok (.int k (a.tmod b)) w := by simp [binOp, Op.intDiv, hb]
theorem r_shl {t : TypeId} {k k' : IntKind} {a b : Int} (hb : 0 ≤ b) (w : World) : (binOp .shl t (.int k a) (.int k' b)).run P w = .ok (.int k (k.wrap (a * 2 ^ min b.toNat k.bits))) w := by
  simp [binOp, Op.shift, show ¬ b < 0 by omega]
theorem r_shr {t : TypeId} {k k' : IntKind} {a b : Int} (hb : 0 ≤ b) (w : World) : (binOp .shr t (.int k a) (.int k' b)).run P w = .ok (.int k (a.fdiv (2 ^ min b.toNat k.bits))) w := by
  simp [binOp, Op.shift, show ¬ b < 0 by omega]
theorem x_not {d : Tmp} {x : Operand} {t : TypeId} {b : Bool} (hx : evo N f x = .bool b) :
    (execOp (evo N f) ⟨some d, .unOp .not t x, ty, pos, aft, g⟩).run P w = .ok (.value ((.bool !b))) w :=
  (run_v (by rw [hx]; simp [Op.unary]))
theorem x_neg {d : Tmp} {x : Operand} {t : TypeId} {k : IntKind} {a : Int} (hx : evo N f x = .int k a) :
    (execOp (evo N f) ⟨some d, .unOp .neg t x, ty, pos, aft, g⟩).run P w = .ok (.value ((.int k (k.wrap (0 - a))))) w :=
  (run_v (by rw [hx]; simp [Op.unary, Op.intArith]))
theorem x_compl {d : Tmp} {x : Operand} {t : TypeId} {k : IntKind} {a : Int} (hx : evo N f x = .int k a) :
    (execOp (evo N f) ⟨some d, .unOp .xor t x, ty, pos, aft, g⟩).run P w = .ok (.value ((.int k (bits .xor k (if k.signed then -1 else k.max) a)))) w :=
  (run_v (by rw [hx]; simp [Op.unary, Op.intBits, bits]))
theorem x_convert {d : Tmp} {x : Operand} {s t : TypeId} {k k' : IntKind} {a a' : Int} {sd : TypeDesc} (hs : P.underlying s = some sd) (ht : P.underlying t = some (.int k')) (hx : evo N f x = .int k a)
    (ha : k'.wrap a = a') :
    (execOp (evo N f) ⟨some d, .convert s t x, ty, pos, aft, g⟩).run P w = .ok (.value ((.int k' a'))) w :=
  (run_v (by
    rw [hx]; unfold convert
    rw [Sem.run_bind, run_underlying hs, Result.andThen_ok, Sem.run_bind, run_underlying ht, Result.andThen_ok]
    cases sd <;> simp [Conv.intToInt, ha]))
/-- a conversion that changes nothing (named types) -/
theorem x_convert_same {d : Tmp} {x : Operand} {s t : TypeId} {v : Value} (hx : evo N f x = v) (hrun : (convert s t v).run P w = .ok v w) :
    (execOp (evo N f) ⟨some d, .convert s t x, ty, pos, aft, g⟩).run P w = .ok (.value (v)) w :=
  (run_v (by rw [hx]; exact hrun))
/-! ### nil -/
theorem x_ptr_eql_nil {d : Tmp} {x y : Operand} {t t' e : TypeId} {p : Option Addr} (ht0 : P.underlying t = some (.pointer e)) (hx : evo N f x = .pointer p) (hy : evo N f y = .pointer none) :
    (execOp (evo N f) ⟨some d, .binOp .eql t x y t', ty, pos, aft, g⟩).run P w = .ok (.value ((.bool p.isNone))) w :=
  (run_v (by
    rw [hx, hy, show eqGuard .eql t x y (.pointer p) (.pointer none) = pure () from rfl]
    have ht : P.underlying t = some (.pointer (P.pointee t)) := by rw [show P.pointee t = e by simp [Program.pointee, ht0]]; exact ht0
    exact run_eql_pointer_nil (P := P) (w := w) t p ht))
theorem x_ptr_neq_nil {d : Tmp} {x y : Operand} {t t' e : TypeId} {p : Option Addr} (ht0 : P.underlying t = some (.pointer e)) (hx : evo N f x = .pointer p) (hy : evo N f y = .pointer none) :
    (execOp (evo N f) ⟨some d, .binOp .neq t x y t', ty, pos, aft, g⟩).run P w = .ok (.value ((.bool (!p.isNone)))) w :=
  (run_v (by
    rw [hx, hy, show eqGuard .neq t x y (.pointer p) (.pointer none) = pure () from rfl]
    have ht : P.underlying t = some (.pointer (P.pointee t)) := by rw [show P.pointee t = e by simp [Program.pointee, ht0]]; exact ht0
    exact run_neq_pointer_nil (P := P) (w := w) t p ht))
theorem x_slice_eql_nil {d : Tmp} {x y : Operand} {t t' e : TypeId} {p : Option Addr} {n c : Nat} (ht : P.underlying t = some (.slice e)) (hx : evo N f x = .slice p n c) (hy : evo N f y = .slice none 0 0) :
    (execOp (evo N f) ⟨some d, .binOp .eql t x y t', ty, pos, aft, g⟩).run P w = .ok (.value ((.bool p.isNone))) w :=
  (run_v (by
    rw [hx, hy, show eqGuard .eql t x y (.slice p n c) (.slice none 0 0) = pure () from rfl]
    exact Lib.run_eql_slice_nil (P := P) w t e p n c 0 0 ht))
theorem x_slice_neq_nil {d : Tmp} {x y : Operand} {t t' e : TypeId} {p : Option Addr} {n c : Nat} (ht : P.underlying t = some (.slice e)) (hx : evo N f x = .slice p n c) (hy : evo N f y = .slice none 0 0) :
    (execOp (evo N f) ⟨some d, .binOp .neq t x y t', ty, pos, aft, g⟩).run P w = .ok (.value ((.bool (!p.isNone)))) w :=
  (run_v (by
    rw [hx, hy, show eqGuard .neq t x y (.slice p n c) (.slice none 0 0) = pure () from rfl]
    exact run_neq_slice_nil (P := P) (w := w) t e p n c ht))
end
end Go.HW
