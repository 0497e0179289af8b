import Derived.Tactics
import Derived.Below
import Derived.Laws.Bits
namespace Go.HW
open Go

/-! ### 1. The frame as a function -/
abbrev Env := Nat → Value
def upd (f : Env) (d : Nat) (v : Value) : Env := fun i => bif Nat.beq i d then v else f i
def mk (N : Nat) (f : Env) : Act := ⟨((List.range N).map f).toArray, []⟩
def evo (N : Nat) (f : Env) : Operand → Value
  | .tmp t => bif Nat.blt t N then f t else undef
  | .const v => v
  | .global g => .pointer (some ⟨g, 0, none⟩)
  | .func f => .func (.func f) #[] #[]
def putE (f : Env) : Option Tmp → Value → Env
  | some d, v => upd f d v
  | none, _ => f

theorem mk_eval (N : Nat) (f : Env) (x : Operand) : (mk N f).eval x = evo N f x := by
  cases x with
  | tmp t =>
    simp only [Act.eval, mk, evo, Array.getD_eq_getD_getElem?, List.getElem?_toArray, List.getElem?_map]
    by_cases h : t < N
    · have : Nat.blt t N = true := by simpa [Nat.blt_eq] using h
      simp [this, h]
    · have : Nat.blt t N = false := by
        cases hb : Nat.blt t N with
        | false => rfl
        | true => exact absurd (by simpa [Nat.blt_eq] using hb) h
      simp [this, h]
  | const v => rfl
  | global g => rfl
  | func g => rfl
theorem mk_evalF (N : Nat) (f : Env) : (mk N f).eval = evo N f := funext (mk_eval N f)
theorem mk_put (N : Nat) (f : Env) (d : Option Tmp) (v : Value) : (mk N f).put d v = mk N (putE f d v) := by
  cases d with
  | none => rfl
  | some d =>
    simp only [Act.put, mk, putE, Act.mk.injEq, and_true]
    apply Array.ext_getElem?
    intro i
    rw [Array.getElem?_setIfInBounds]
    simp only [List.getElem?_toArray, List.getElem?_map, List.size_toArray, List.length_map, List.length_range]
    by_cases hi : i < N
    · rw [List.getElem?_range hi]
      by_cases hd : d = i
      · subst hd
        simp [upd, hi]
      · have : Nat.beq i d = false := by
          cases hb : Nat.beq i d with
          | false => rfl
          | true => exact absurd (Nat.eq_of_beq_eq_true hb).symm hd
        simp [upd, hd, this]
    · rw [List.getElem?_eq_none (by simpa using hi)]
      by_cases hd : d = i
      · subst hd
        simp [hi]
      · simp [hd]
theorem upd_self {f : Env} {d : Nat} {v : Value} (h : f d = v) : upd f d v = f := by
  funext i
  unfold upd
  cases hb : Nat.beq i d with
  | false => rfl
  | true => have := Nat.eq_of_beq_eq_true hb; subst this; simp [h]

/-! ### 2. The walk over the frame -/
abbrev Post := Exit → Env → World → Prop
def lift (N : Nat) (Q : Post) : Exit → Act → World → Prop := fun e a w => ∃ f, a = mk N f ∧ Q e f w
def WL (P : Program) (N : Nat) (ops : Array Oper) (Q : Post) (l : List Oper) (f : Env) (w : World) : Prop := wpList P ops (lift N Q) l (mk N f) w
def WC (P : Program) (N : Nat) (c : Code) (Q : Post) (f : Env) (w : World) : Prop := c.wp P (lift N Q) (mk N f) w
def thenE (next : Env → World → Prop) (Q : Post) : Post
  | .normal, f, w => next f w
  | e, f, w => Q e f w
def inBlockE (id : Nat) (Q : Post) : Post
  | .exit id', f, w => bif Nat.beq id' id then Q .normal f w else Q (.exit id') f w
  | e, f, w => Q e f w

section
variable {P : Program} {N : Nat} {Q : Post} {f : Env} {w : World}

theorem WC_mono {c : Code} {Q' : Post} (h : WC P N c Q f w) (hq : ∀ e f w, Q e f w → Q' e f w) : WC P N c Q' f w :=
  wp_mono h fun e _ w ⟨f, hf, q⟩ => ⟨f, hf, hq e f w q⟩
theorem lift_then {x : Code} {next : Env → World → Prop} (h : WC P N x (thenE next Q) f w) : x.wp P (Exit.then (fun a w => ∃ f, a = mk N f ∧ next f w) (lift N Q)) (mk N f) w :=
  wp_mono h fun e a w ⟨f, hf, q⟩ => by
    cases e <;> exact ⟨f, hf, q⟩
theorem WC_seq {x y : Code} (h : WC P N x (thenE (WC P N y Q) Q) f w) : WC P N (.seq x y) Q f w :=
  wp_seq_k fun K hK => wp_mono (lift_then h) fun e a w hq => by
    cases e with
    | normal =>
      obtain ⟨f, rfl, q⟩ := hq
      exact hK _ _ q
    | _ => exact hq
theorem WC_skip (h : Q .normal f w) : WC P N .skip Q f w := wp_skip ⟨f, rfl, h⟩
theorem WC_ret (h : Q .ret f w) : WC P N .ret Q f w := wp_ret ⟨f, rfl, h⟩
theorem WC_exit {id : Nat} (h : Q (.exit id) f w) : WC P N (.exit id) Q f w := wp_exit ⟨f, rfl, h⟩
theorem WC_label {l : Nat} (h : Q .normal f w) : WC P N (.label l) Q f w := wp_label ⟨f, rfl, h⟩
theorem WC_block {id : Nat} {c : Code} (h : WC P N c (inBlockE id Q) f w) : WC P N (.block id c) Q f w :=
  wp_block (wp_mono h fun e a w ⟨f, hf, q⟩ => by
    cases e with
    | exit id' =>
      simp only [Exit.inBlock]
      simp only [inBlockE] at q
      by_cases hi : id' = id
      · subst hi
        rw [if_pos rfl]
        simp only [Nat.beq_refl, cond_true] at q
        exact ⟨f, hf, q⟩
      · rw [if_neg hi]
        have : Nat.beq id' id = false := by
          cases hb : Nat.beq id' id with
          | false => rfl
          | true => exact absurd (Nat.eq_of_beq_eq_true hb) hi
        rw [this] at q
        exact ⟨f, hf, q⟩
    | _ => exact ⟨f, hf, q⟩)
theorem WC_cond {c : Operand} {x y : Code} {t : Bool} (hc : evo N f c = .bool t) (h : WC P N (bif t then x else y) Q f w) : WC P N (.cond c x y) Q f w := by
  refine wp_cond (t := t) (by rw [mk_eval]; exact hc) ?_
  cases t <;> exact h
theorem WC_loop {c : Code} (I : Env → World → Prop) (μ : Env → World → Nat) (h₀ : I f w)
    (round : ∀ f w, I f w → WC P N c (thenE (fun f' w' => I f' w' ∧ μ f' w' < μ f w) Q) f w) : WC P N (.loop c) Q f w := by
  intro b k cs
  have key : ∀ n f w, μ f w = n → I f w →
      ∃ e a' w', lift N Q e a' w' ∧ Arrives P (lone (b.at (mk N f) (.code c :: .inLoop c :: k)) cs w) b k cs e a' w' := by
    intro n
    induction n using Nat.strongRecOn with
    | _ n ih =>
      intro f w hn hI
      obtain ⟨e, a₁, w₁, ⟨f₁, rfl, hq⟩, harr⟩ := round f w hI b (.inLoop c :: k) cs
      cases e with
      | normal =>
        obtain ⟨hI₁, hlt⟩ := hq
        obtain ⟨e₂, a₂, w₂, hq₂, harr₂⟩ := ih (μ f₁ w₁) (hn ▸ hlt) f₁ w₁ rfl hI₁
        exact ⟨e₂, a₂, w₂, hq₂, .of_steps (Steps.trans harr (.one step_inLoop)) harr₂⟩
      | exit id => exact ⟨_, _, w₁, ⟨f₁, rfl, hq⟩, .pass (x := .inLoop c) rfl (fun _ _ => .inl (by simp)) harr⟩
      | goto l => exact ⟨_, _, w₁, ⟨f₁, rfl, hq⟩, .pass (x := .inLoop c) rfl (fun _ _ => .inl (by simp)) harr⟩
      | ret => exact ⟨_, _, w₁, ⟨f₁, rfl, hq⟩, .pass (x := .inLoop c) rfl (fun _ _ => .inl (by simp)) harr⟩
      | panic ch => exact ⟨_, _, w₁, ⟨f₁, rfl, hq⟩, .pass (x := .inLoop c) rfl (fun _ _ => .inl (by simp)) harr⟩
      | outgrown => exact ⟨_, _, w₁, ⟨f₁, rfl, hq⟩, .pass (x := .inLoop c) rfl (fun _ _ => .inl (by simp)) harr⟩
  obtain ⟨e, a', w', hq, harr⟩ := key _ f w rfl h₀
  exact ⟨e, a', w', hq, .of_steps (.one step_loop) harr⟩
theorem WC_region {id : Nat} {l : List Oper} (h : WL P N l.toArray Q l f w) : WC P N (.region id l.toArray false) Q f w := wp_region_lit h
theorem thenE_normal {next : Env → World → Prop} (h : next f w) : thenE next Q .normal f w := h
end
end Go.HW
