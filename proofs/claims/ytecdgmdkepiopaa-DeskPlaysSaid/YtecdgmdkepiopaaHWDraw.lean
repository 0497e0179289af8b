import Derived.Test.YtecdgmdkepiopaaHWKit
import Derived.OrdersHeld
import Derived.StillTail
set_option linter.unusedSimpArgs false
set_option linter.unusedVariables false
namespace Go.HW
open Go Go.RowKit

/-! ### Regions that draw their order: what only gives a value may be taken first, while S holds of the world; S may end with the region's last operation. -/
section
variable {P : Program} {ops : Array Oper} {Q : Exit → Act → World → Prop} {S : World → Prop}
def yieldsG (P : Program) (ops : Array Oper) (S : World → Prop) (o : Oper) (v : Value) (a : Act) : Prop :=
  (Region.wanted o (yielded ops a.tmps) = true ∧ ∀ w, S w → (execOp a.eval o).run P w = .ok (.value v) w) ∨
  (Region.wanted o (yielded ops a.tmps) = false ∧ v = undef)
theorem yieldsG.wpOp {i : Nat} {o : Oper} {v : Value} {a : Act} (hi : ops[i]? = some o) (hy : yieldsG P ops S o v a)
    {K : Act → World → Prop} {w : World} (hS : S w) (h : K (a.put o.dst v) w) : wpOp P ops Q i K a w := by
  unfold Go.wpOp
  simp only [hi]
  rcases hy with ⟨hw, hv⟩ | ⟨hw, rfl⟩
  · simp only [hw, if_true, Oper.wp, hv w hS, Oper.upon]; exact .inl h
  · simp only [hw, Bool.false_eq_true, if_false]; exact h
theorem yieldsG.same {o : Oper} {v : Value} {a a' : Act} (hy : yieldsG P ops S o v a) (he : execOp a'.eval o = execOp a.eval o)
    (hw : Region.wanted o (yielded ops a'.tmps) = Region.wanted o (yielded ops a.tmps)) : yieldsG P ops S o v a' := by
  unfold yieldsG at *
  rw [he, hw]
  exact hy
theorem wpOp_putG {j : Nat} {oi oj : Oper} {v : Value} (hj : ops[j]? = some oj) (hap : oi.apart ops oj = true)
    (hsi : ∀ cs b, oi.op ≠ .select cs b) (hsj : ∀ cs b, oj.op ≠ .select cs b)
    (hQ : ∀ c a w, ¬ Q (.panic c) a w) {K : Act → World → Prop} {a : Act} {w : World}
    (hy : yieldsG P ops S oi v a) (h : wpOp P ops Q j K (a.put oi.dst v) w) :
    wpOp P ops Q j (fun a' w' => yieldsG P ops S oi v a' ∧ K (a'.put oi.dst v) w') a w := by
  obtain ⟨h1, h2, h3⟩ := Oper.apart_spec hap
  have keep : ∀ (a : Act), yieldsG P ops S oi v a → ∀ u, yieldsG P ops S oi v (a.put oj.dst u) := fun a hy u =>
    hy.same (execOp_put oi hsi a oj.dst u h3) (wanted_put oi a oj.dst u h3)
  have keepD : ∀ d, yieldsG P ops S oi v { a with defers := d :: a.defers } := fun d => hy.same rfl rfl
  unfold wpOp at *
  simp only [hj] at *
  rw [wanted_put oj a oi.dst v h1] at h
  split
  · rename_i hw
    simp only [hw, if_true] at h
    rcases h with h | ⟨hasks, hlets⟩
    case inr => exact .inr ⟨by unfold Oper.asks at *; rw [execOp_put oj hsj a oi.dst v h1] at hasks; exact hasks, hlets⟩
    refine .inl ?_
    unfold Oper.wp at *
    rw [execOp_put oj hsj a oi.dst v h1] at h
    generalize (execOp a.eval oj).run P w = r at *
    cases r with
    | ok n w' =>
      cases n <;> simp only [Oper.upon] at h ⊢
      case value u => exact ⟨keep a hy u, by rw [← Act.put_comm a v u h2]; exact h⟩
      case skip => exact ⟨keep a hy _, by rw [← Act.put_comm a v undef h2]; exact h⟩
      case defer d =>
        refine ⟨keep _ (keepD d) _, ?_⟩
        rw [← Act.put_comm _ v undef h2, ← Act.put_defers]
        exact h
      case enter f args =>
        refine Calls.mono h fun e w'' he => ?_
        cases e with
        | returned u => exact ⟨keep a hy u, by rw [← Act.put_comm a v u h2]; exact he⟩
        | panicked c => exact (hQ _ _ _ he).elim
        | outgrown => exact he
      case row row args => exact Rows.mono h fun u w'' he => ⟨keep a hy u, by rw [← Act.put_comm a v u h2]; exact he⟩
    | halt x w' =>
      cases x <;> simp only [Oper.upon] at h ⊢
      case panic u => exact (hQ _ _ _ h).elim
  · rename_i hw
    simp only [hw] at h
    exact ⟨keep a hy _, by rw [← Act.put_comm a v undef h2]; exact h⟩
/-- Whatever order is picked from here on; S holds behind every operation but number n. -/
def wpAnyG (P : Program) (ops : Array Oper) (Q : Exit → Act → World → Prop) (S : World → Prop) (n : Nat) : Nat → Array Bool → Act → World → Prop
  | 0, listed, a, w => Region.ready .any ops listed = [] ∧ Q .normal a w
  | fuel + 1, listed, a, w =>
    (Region.ready .any ops listed = [] → Q .normal a w) ∧
    ∀ i ∈ Region.ready .any ops listed, wpOp P ops Q i (fun a' w' => if i = n then wpAny P .any ops Q fuel (listed.setIfInBounds i true) a' w' else S w' ∧ wpAnyG P ops Q S n fuel (listed.setIfInBounds i true) a' w') a w
theorem wpAny_ofG {n : Nat} : ∀ (fuel : Nat) (listed : Array Bool) (a : Act) (w : World), wpAnyG P ops Q S n fuel listed a w → wpAny P .any ops Q fuel listed a w
  | 0, _, _, _, h => h
  | fuel + 1, _, _, _, h => ⟨h.1, fun i hi => wpOp_mono (fun a' w' h' => by
      by_cases hin : i = n
      · rw [if_pos hin] at h'; exact h'
      · rw [if_neg hin] at h'; exact wpAny_ofG fuel _ a' w' h'.2) (h.2 i hi)⟩
/-- n waits for i, perhaps over others -/
def waitsT (ops : Array Oper) (i : Nat) : Nat → Nat → Bool
  | 0, _ => false
  | f + 1, n => match ops[n]? with
    | some on => on.after.any fun e => Region.binds .any e && (Nat.beq e.on i || waitsT ops i f e.on)
    | none => false
def closedL (ops : Array Oper) (listed : Array Bool) : Prop := ∀ j oj, ops[j]? = some oj → listed.getD j false = true → ∀ e ∈ oj.after, Region.binds .any e = true → listed.getD e.on false = true
def closedB (ops : Array Oper) (listed : Array Bool) : Bool := (List.range ops.size).all fun j => !listed.getD j false || match ops[j]? with
  | some oj => oj.after.all fun e => !Region.binds .any e || listed.getD e.on false
  | none => true
theorem closedB_spec {listed : Array Bool} (h : closedB ops listed = true) : closedL ops listed := by
  intro j oj hj hl e he hb
  have hlt : j < ops.size := (Array.getElem?_eq_some_iff.1 hj).1
  have h1 := List.all_eq_true.1 h j (by simpa using hlt)
  simp only [hl, hj, Bool.not_true, Bool.false_or] at h1
  have h2 := Array.all_eq_true_iff_forall_mem.1 h1 e he
  simpa [hb] using h2
theorem closed_set {listed : Array Bool} {i : Nat} (hc : closedL ops listed) (hi : i ∈ Region.ready .any ops listed) : closedL ops (listed.setIfInBounds i true) := by
  obtain ⟨_, oi, hoi, hall⟩ := mem_ready.1 hi
  have up : ∀ k, listed.getD k false = true → (listed.setIfInBounds i true).getD k false = true := by
    intro k hk
    by_cases hik : i = k
    · subst hik
      rcases Nat.lt_or_ge i listed.size with h | h
      · simp [h]
      · simp [Array.getElem?_eq_none h] at hk
    · rw [getD_set_ne false hik]; exact hk
  intro j oj hj hl e he hb
  refine up _ ?_
  by_cases hij : i = j
  · subst hij
    rw [hoi] at hj
    injection hj with hj
    subst hj
    exact hall e he hb
  · rw [getD_set_ne false hij] at hl
    exact hc j oj hj hl e he hb
theorem waitsT_spec {listed : Array Bool} {i : Nat} (hc : closedL ops listed) (hi : listed.getD i false = false) : ∀ f n on, ops[n]? = some on → waitsT ops i f n = true → ¬ ∀ e ∈ on.after, Region.binds .any e = true → listed.getD e.on false = true
  | 0, _, _, _, h, _ => by simp [waitsT] at h
  | f + 1, n, on, hon, h, hall => by
    simp only [waitsT, hon] at h
    obtain ⟨e, he, hb⟩ := Array.any_eq_true'.1 h
    simp only [Bool.and_eq_true, Bool.or_eq_true] at hb
    have h1 := hall e he hb.1
    rcases hb.2 with h2 | h2
    · have := Nat.eq_of_beq_eq_true h2
      rw [this, hi] at h1; cases h1
    · cases ho : ops[e.on]? with
      | none =>
        cases f with
        | zero => simp [waitsT] at h2
        | succ f => simp [waitsT, ho] at h2
      | some oe => exact waitsT_spec hc hi f e.on oe ho h2 (hc e.on oe ho h1)
theorem wpAnyG_first {i n : Nat} {oi : Oper} {v : Value} (hi : ops[i]? = some oi) (hsel : ∀ (j : Nat) (o : Oper) cs b, ops[j]? = some o → o.op ≠ .select cs b)
    (hQ : ∀ c a w, ¬ Q (.panic c) a w) (hn : waitsT ops i ops.size n = true ∨ ops.size ≤ n) :
    ∀ (fuel : Nat) (listed : Array Bool) (a : Act) (w : World), closedL ops listed →
      (∀ j oj, ops[j]? = some oj → j ≠ i → listed.getD j true = false → (∀ e ∈ oj.after, Region.binds .any e = true → e.on ≠ i) → oi.apart ops oj = true) →
      i ∈ Region.ready .any ops listed → yieldsG P ops S oi v a → S w →
      wpAnyG P ops Q S n fuel (listed.setIfInBounds i true) (a.put oi.dst v) w → wpAnyG P ops Q S n (fuel + 1) listed a w := by
  -- number n never comes up while i has not
  have later : ∀ listed : Array Bool, closedL ops listed → i ∈ Region.ready .any ops listed → n ∉ Region.ready .any ops listed := by
    intro listed hcl hr hnr
    obtain ⟨_, on, hon, hall⟩ := mem_ready.1 hnr
    rcases hn with hn | hn
    · exact waitsT_spec hcl (getD_both (mem_ready.1 hr).1) _ n on hon hn hall
    · rw [Array.getElem?_eq_none hn] at hon; cases hon
  intro fuel
  induction fuel with
  | zero =>
    intro listed a w hcl _ hr hy hS H
    refine ⟨fun h => (by rw [h] at hr; cases hr), fun j hj => ?_⟩
    by_cases hji : j = i
    · subst hji
      have hjn : j ≠ n := fun e => later listed hcl hr (e ▸ hr)
      exact hy.wpOp hi hS (by rw [if_neg hjn]; exact ⟨hS, H⟩)
    · have := ready_mono hj hji
      rw [H.1] at this
      cases this
  | succ fuel ih =>
    intro listed a w hcl hfree hr hy hS H
    refine ⟨fun h => (by rw [h] at hr; cases hr), fun j hj => ?_⟩
    by_cases hji : j = i
    · subst hji
      have hjn : j ≠ n := fun e => later listed hcl hr (e ▸ hr)
      exact hy.wpOp hi hS (by rw [if_neg hjn]; exact ⟨hS, H⟩)
    · have hjn : j ≠ n := fun e => later listed hcl hr (e ▸ hj)
      have h1 := H.2 j (ready_mono hj hji)
      obtain ⟨hjun, oj, hoj, hall⟩ := mem_ready.1 hj
      have hnot : ∀ e ∈ oj.after, Region.binds .any e = true → e.on ≠ i := fun e he hb heq => by
        have h1 := hall e he hb
        have h0 := (mem_ready.1 hr).1
        rw [heq] at h1
        rcases Nat.lt_or_ge i listed.size with h' | h'
        · simp [h'] at h0 h1; rw [h0] at h1; cases h1
        · simp [Array.getElem?_eq_none h'] at h1
      have h2 := wpOp_putG hoj (hfree j oj hoj hji hjun hnot) (fun cs b => hsel i oi cs b hi) (fun cs b => hsel j oj cs b hoj) hQ hy h1
      have hfree' : ∀ k ok, ops[k]? = some ok → k ≠ i → (listed.setIfInBounds j true).getD k true = false →
          (∀ e ∈ ok.after, Region.binds .any e = true → e.on ≠ i) → oi.apart ops ok = true := fun k ok hk hki hun hno => by
        refine hfree k ok hk hki ?_ hno
        by_cases hjk : j = k
        · subst hjk; exact hjun
        · rw [getD_set_ne true hjk] at hun; exact hun
      refine wpOp_mono (fun a' w' h3 => ?_) h2
      obtain ⟨hy3, h3⟩ := h3
      rw [if_neg hjn] at h3 ⊢
      refine ⟨h3.1, ih (listed.setIfInBounds j true) a' w' (closed_set hcl hj) hfree' (ready_mono hr (Ne.symm hji)) hy3 h3.1 ?_⟩
      rw [Array.setIfInBounds_comm _ _ hji]
      exact h3.2
end

section
variable {P : Program} {N : Nat} {Q : Post} {f : Env} {w : World} {l : List Oper}
/-- what a region may end in: its normal end alone -/
def onlyN (Q : Post) : Post
  | .normal, f, w => Q .normal f w
  | _, _, _ => False
/-- The walk of a region that draws its order: 'listed': which operations have come up. -/
def WG (P : Program) (N : Nat) (l : List Oper) (Q : Post) (S : World → Prop) (n fuel : Nat) (listed : List Bool) (f : Env) (w : World) : Prop :=
  wpAnyG P l.toArray (lift N (onlyN Q)) S n fuel listed.toArray (mk N f) w
theorem onlyN_lift {e : Exit} {a : Act} {w : World} (h : lift N (onlyN Q) e a w) : lift N Q e a w := by
  obtain ⟨f, hf, q⟩ := h
  cases e with
  | normal => exact ⟨f, hf, q⟩
  | _ => exact q.elim
theorem WC_draw {id m : Nat} {S : World → Prop} {listed : List Bool} (n : Nat) (hm : P.follows .mixedOrders = true) (hl : l.length = m) (hr : List.replicate m false = listed) (h : WG P N l Q S n m listed f w.drew) : WC P N (.region id l.toArray true) Q f w := by
  subst hr; subst hl
  refine wp_mono (Q := lift N (onlyN Q)) ?_ (fun e a w h => onlyN_lift h)
  refine wp_region_any hm (wpAny_ofG (n := n) (S := S) _ _ _ _ ?_)
  unfold WG at h
  simpa using h
theorem WC_drawH {id m : Nat} {w0 : World} {M : List Nat} {cs ro : List Ck} {listed : List Bool} (n : Nat) (hm : P.follows .mixedOrders = true) (hl : l.length = m) (hr : List.replicate m false = listed) (H : St w0 M cs ro w)
    (h : ∀ w', St w0 M cs ro w' → WG P N l Q (fun w => St w0 M cs ro w) n m listed f w') : WC P N (.region id l.toArray true) Q f w :=
  WC_draw n hm hl hr (h _ (H.quiet (Fr.drew w)))
theorem WC_drawS {id m : Nat} {w0 : World} {M : List Nat} {cs ro : List Ck} {listed : List Bool} (S : World → Prop) (n : Nat) (hm : P.follows .mixedOrders = true) (hl : l.length = m) (hr : List.replicate m false = listed) (H : St w0 M cs ro w)
    (hS : ∀ w', St w0 M cs ro w' → S w') (h : ∀ w', St w0 M cs ro w' → S w' → WG P N l Q S n m listed f w') : WC P N (.region id l.toArray true) Q f w :=
  WC_draw n hm hl hr (h _ (H.quiet (Fr.drew w)) (hS _ (H.quiet (Fr.drew w))))
/-- number i is taken first -/
theorem WG_take {S : World → Prop} {n fuel i : Nat} {listed listed' : List Bool} {d : Option Tmp} {op : Op} {ty : TypeId} {pos : String} {aft : Array Edge} {v : Value} (hi : l[i]? = some ⟨d, op, ty, pos, aft, none⟩)
    (hB : (Region.noSelect l.toArray && Region.free .any l.toArray listed.toArray i && (Region.ready .any l.toArray listed.toArray).contains i && (waitsT l.toArray i l.length n || Nat.ble l.length n) && closedB l.toArray listed.toArray) = true)
    (hy : ∀ w, S w → (execOp (evo N f) ⟨d, op, ty, pos, aft, none⟩).run P w = .ok (.value v) w) (hS : S w)
    (hls : listed.set i true = listed') (h : WG P N l Q S n fuel listed' (putE f d v) w) : WG P N l Q S n (fuel + 1) listed f w := by
  subst hls
  simp only [Bool.and_eq_true] at hB
  obtain ⟨⟨⟨⟨h1, h2⟩, h3⟩, h4⟩, h5⟩ := hB
  have hi' : l.toArray[i]? = some ⟨d, op, ty, pos, aft, none⟩ := by simpa using hi
  have hn : waitsT l.toArray i l.toArray.size n = true ∨ l.toArray.size ≤ n := by
    rcases Bool.or_eq_true _ _ ▸ h4 with h | h
    · exact .inl (by simpa using h)
    · exact .inr (by simpa using Nat.le_of_ble_eq_true h)
  unfold WG at h ⊢
  refine wpAnyG_first hi' (Region.noSelect_spec h1) (fun c a w hq => by obtain ⟨f, _, q⟩ := hq; exact q) hn fuel _ _ _ (closedB_spec h5) (Region.free_spec hi' h2) (by simpa using h3)
    (.inl ⟨by simp [Region.wanted], fun w hw => by rw [mk_evalF]; exact hy w hw⟩) hS ?_
  rw [mk_put]
  simpa using h
/-- an operation that is not wanted -/
theorem WG_skip {S : World → Prop} {n fuel i j t : Nat} {want : Bool} {listed listed' : List Bool} {d : Option Tmp} {op : Op} {ty : TypeId} {pos : String} {aft : Array Edge} (hi : l[i]? = some ⟨d, op, ty, pos, aft, some (j, want)⟩)
    (hB : (Region.noSelect l.toArray && Region.free .any l.toArray listed.toArray i && (Region.ready .any l.toArray listed.toArray).contains i && (waitsT l.toArray i l.length n || Nat.ble l.length n) && closedB l.toArray listed.toArray) = true)
    (hj : guardT l.toArray j = some t) (ht : Nat.blt t N = true) (hb : f t = .bool !want) (hS : S w)
    (hls : listed.set i true = listed') (h : WG P N l Q S n fuel listed' (putE f d undef) w) : WG P N l Q S n (fuel + 1) listed f w := by
  subst hls
  simp only [Bool.and_eq_true] at hB
  obtain ⟨⟨⟨⟨h1, h2⟩, h3⟩, h4⟩, h5⟩ := hB
  have hi' : l.toArray[i]? = some ⟨d, op, ty, pos, aft, some (j, want)⟩ := by simpa using hi
  have hn : waitsT l.toArray i l.toArray.size n = true ∨ l.toArray.size ≤ n := by
    rcases Bool.or_eq_true _ _ ▸ h4 with h | h
    · exact .inl (by simpa using h)
    · exact .inr (by simpa using Nat.le_of_ble_eq_true h)
  unfold WG at h ⊢
  refine wpAnyG_first hi' (Region.noSelect_spec h1) (fun c a w hq => by obtain ⟨f, _, q⟩ := hq; exact q) hn fuel _ _ _ (closedB_spec h5) (Region.free_spec hi' h2) (by simpa using h3)
    (.inr ⟨by simp [Region.wanted, yielded_mk hj ht hb], rfl⟩) hS ?_
  rw [mk_put]
  simpa using h
theorem WG_skipu {S : World → Prop} {n fuel i j t : Nat} {want : Bool} {listed listed' : List Bool} {d : Option Tmp} {op : Op} {ty : TypeId} {pos : String} {aft : Array Edge} (hi : l[i]? = some ⟨d, op, ty, pos, aft, some (j, want)⟩)
    (hB : (Region.noSelect l.toArray && Region.free .any l.toArray listed.toArray i && (Region.ready .any l.toArray listed.toArray).contains i && (waitsT l.toArray i l.length n || Nat.ble l.length n) && closedB l.toArray listed.toArray) = true)
    (hj : guardT l.toArray j = some t) (ht : Nat.blt t N = true) (hb : f t = undef) (hS : S w)
    (hls : listed.set i true = listed') (h : WG P N l Q S n fuel listed' (putE f d undef) w) : WG P N l Q S n (fuel + 1) listed f w := by
  subst hls
  simp only [Bool.and_eq_true] at hB
  obtain ⟨⟨⟨⟨h1, h2⟩, h3⟩, h4⟩, h5⟩ := hB
  have hi' : l.toArray[i]? = some ⟨d, op, ty, pos, aft, some (j, want)⟩ := by simpa using hi
  have hn : waitsT l.toArray i l.toArray.size n = true ∨ l.toArray.size ≤ n := by
    rcases Bool.or_eq_true _ _ ▸ h4 with h | h
    · exact .inl (by simpa using h)
    · exact .inr (by simpa using Nat.le_of_ble_eq_true h)
  unfold WG at h ⊢
  refine wpAnyG_first hi' (Region.noSelect_spec h1) (fun c a w hq => by obtain ⟨f, _, q⟩ := hq; exact q) hn fuel _ _ _ (closedB_spec h5) (Region.free_spec hi' h2) (by simpa using h3)
    (.inr ⟨by simp [Region.wanted, yielded_u hj ht hb], rfl⟩) hS ?_
  rw [mk_put]
  simpa using h
/-- a wanted operation is taken first -/
theorem WG_takeG {S : World → Prop} {n fuel i j t : Nat} {want : Bool} {listed listed' : List Bool} {d : Option Tmp} {op : Op} {ty : TypeId} {pos : String} {aft : Array Edge} {v : Value} (hi : l[i]? = some ⟨d, op, ty, pos, aft, some (j, want)⟩)
    (hB : (Region.noSelect l.toArray && Region.free .any l.toArray listed.toArray i && (Region.ready .any l.toArray listed.toArray).contains i && (waitsT l.toArray i l.length n || Nat.ble l.length n) && closedB l.toArray listed.toArray) = true)
    (hj : guardT l.toArray j = some t) (ht : Nat.blt t N = true) (hb : f t = .bool want)
    (hy : ∀ w, S w → (execOp (evo N f) ⟨d, op, ty, pos, aft, some (j, want)⟩).run P w = .ok (.value v) w) (hS : S w)
    (hls : listed.set i true = listed') (h : WG P N l Q S n fuel listed' (putE f d v) w) : WG P N l Q S n (fuel + 1) listed f w := by
  subst hls
  simp only [Bool.and_eq_true] at hB
  obtain ⟨⟨⟨⟨h1, h2⟩, h3⟩, h4⟩, h5⟩ := hB
  have hi' : l.toArray[i]? = some ⟨d, op, ty, pos, aft, some (j, want)⟩ := by simpa using hi
  have hn : waitsT l.toArray i l.toArray.size n = true ∨ l.toArray.size ≤ n := by
    rcases Bool.or_eq_true _ _ ▸ h4 with h | h
    · exact .inl (by simpa using h)
    · exact .inr (by simpa using Nat.le_of_ble_eq_true h)
  unfold WG at h ⊢
  refine wpAnyG_first hi' (Region.noSelect_spec h1) (fun c a w hq => by obtain ⟨f, _, q⟩ := hq; exact q) hn fuel _ _ _ (closedB_spec h5) (Region.free_spec hi' h2) (by simpa using h3)
    (.inl ⟨by simp [Region.wanted, yielded_mk hj ht hb], fun w hw => by rw [mk_evalF]; exact hy w hw⟩) hS ?_
  rw [mk_put]
  simpa using h
/-- a guard that is not known is decided ahead -/
theorem WG_case {S : World → Prop} {n fuel t : Nat} {b : Bool} {listed : List Bool} (hb : f t = .bool b)
    (hT : b = true → WG P N l Q S n fuel listed (upd f t (.bool true)) w) (hF : b = false → WG P N l Q S n fuel listed (upd f t (.bool false)) w) : WG P N l Q S n fuel listed f w := by
  cases b with
  | true => have := hT rfl; rwa [upd_self hb] at this
  | false => have := hF rfl; rwa [upd_self hb] at this
theorem WG_cased {S : World → Prop} {n fuel t : Nat} {p : Prop} [Decidable p] {listed : List Bool} (hb : f t = .bool (decide p))
    (hT : p → WG P N l Q S n fuel listed (upd f t (.bool true)) w) (hF : ¬ p → WG P N l Q S n fuel listed (upd f t (.bool false)) w) : WG P N l Q S n fuel listed f w :=
  WG_case hb (fun h => hT (of_decide_eq_true h)) (fun h => hF (of_decide_eq_false h))
theorem WG_casen {S : World → Prop} {n fuel t : Nat} {p : Prop} [Decidable p] {listed : List Bool} (hb : f t = .bool (!decide p))
    (hT : ¬ p → WG P N l Q S n fuel listed (upd f t (.bool true)) w) (hF : p → WG P N l Q S n fuel listed (upd f t (.bool false)) w) : WG P N l Q S n fuel listed f w :=
  WG_case hb (fun h => hT (by simpa using h)) (fun h => hF (by simpa using h))
/-- the only one that may come up, and no guard: it is walked -/
theorem WG_one {S : World → Prop} {n fuel i : Nat} {listed : List Bool} {o : Oper} (hi : l[i]? = some o) (hw : Region.wanted o (yielded l.toArray (mk N f).tmps) = true) (hr : Region.ready .any l.toArray listed.toArray = [i])
    (h : WL P N l.toArray (onlyN fun _ f' w' => if i = n then wpAny P .any l.toArray (lift N (onlyN Q)) fuel (listed.set i true).toArray (mk N f') w' else S w' ∧ WG P N l Q S n fuel (listed.set i true) f' w') [o] f w) :
    WG P N l Q S n (fuel + 1) listed f w := by
  unfold WG
  have hi' : l.toArray[i]? = some o := by simpa using hi
  show (_ → _) ∧ _
  refine And.intro (fun h0 => by rw [h0] at hr; cases hr) (fun j hj => ?_)
  rw [hr] at hj
  simp at hj
  subst hj
  unfold wpOp
  simp only [hi']
  rw [if_pos hw]
  unfold WL wpList at h
  rw [if_pos hw] at h
  rcases h with h | ⟨_, a, w, hq⟩
  · refine .inl ?_
    have hK : ∀ a' w', wpList P l.toArray (lift N (onlyN fun _ f' w' => if j = n then wpAny P .any l.toArray (lift N (onlyN Q)) fuel (listed.set j true).toArray (mk N f') w' else S w' ∧ WG P N l Q S n fuel (listed.set j true) f' w')) [] a' w' →
        (if j = n then wpAny P .any l.toArray (lift N (onlyN Q)) fuel (listed.toArray.setIfInBounds j true) a' w' else S w' ∧ wpAnyG P l.toArray (lift N (onlyN Q)) S n fuel (listed.toArray.setIfInBounds j true) a' w') := by
      intro a' w' hh
      obtain ⟨f', rfl, q⟩ := hh
      have e : listed.toArray.setIfInBounds j true = (listed.set j true).toArray := by simp
      rw [e]
      exact q
    have := Oper.wp_mono hK h
    unfold Oper.wp at this ⊢
    generalize (execOp (mk N f).eval o).run P w = r at this
    cases r with
    | ok n' w' =>
      cases n' <;> simp only [Oper.upon] at this ⊢
      case value => exact this
      case skip => exact this
      case defer => exact this
      case enter =>
        refine Calls.mono this fun e w'' he => ?_
        cases e with
        | returned u => exact he
        | panicked c => obtain ⟨f', _, q⟩ := he; exact q.elim
        | outgrown => obtain ⟨a, w, f', _, q⟩ := he; exact q.elim
      case row => exact this
    | halt x w' =>
      cases x <;> simp only [Oper.upon] at this ⊢
      case panic => obtain ⟨f', _, q⟩ := this; exact q.elim
  · obtain ⟨f', _, q⟩ := hq; exact q.elim
def midP (P : Program) (N : Nat) (l : List Oper) (Q : Post) (S : World → Prop) (n fuel : Nat) (listed : List Bool) : Post
  | .normal, f, w => S w ∧ WG P N l Q S n fuel listed f w
  | _, _, _ => False
def finP (P : Program) (N : Nat) (l : List Oper) (Q : Post) : Post
  | .normal, f, w => Q .normal f w
  | _, _, _ => False
theorem mid_mk {S : World → Prop} {n fuel : Nat} {listed : List Bool} (hS : S w) (h : WG P N l Q S n fuel listed f w) : midP P N l Q S n fuel listed .normal f w := ⟨hS, h⟩
theorem fin_mk (h : Q .normal f w) : finP P N l Q .normal f w := h
theorem WL_mono {ops : Array Oper} {Q Q' : Post} (hq : ∀ e f w, Q e f w → Q' e f w) {l : List Oper} {f : Env} {w : World} (h : WL P N ops Q l f w) : WL P N ops Q' l f w := by
  unfold WL at *
  have hQ : ∀ e a w, lift N Q e a w → lift N Q' e a w := fun e a w ⟨f, hf, q⟩ => ⟨f, hf, hq e f w q⟩
  generalize mk N f = a at h ⊢
  induction l generalizing a w with
  | nil => exact hQ _ _ _ h
  | cons o rest ih =>
    unfold wpList at h ⊢
    split
    · rename_i hw
      rw [if_pos hw] at h
      rcases h with h | ⟨h1, a', w', h2⟩
      · refine .inl ?_
        unfold Oper.wp at *
        generalize (execOp a.eval o).run P w = r at *
        cases r with
        | ok n' w' =>
          cases n' <;> simp only [Oper.upon] at h ⊢
          case value => exact ih _ h
          case skip => exact ih _ h
          case defer => exact ih _ h
          case enter =>
            refine Calls.mono h fun e w'' he => ?_
            cases e with
            | returned u => exact ih _ he
            | panicked c => exact hQ _ _ _ he
            | outgrown => obtain ⟨a', w', he⟩ := he; exact ⟨a', w', hQ _ _ _ he⟩
          case row => exact Rows.mono h fun u w'' he => ih _ he
        | halt x w' =>
          cases x <;> simp only [Oper.upon] at h ⊢
          case panic => exact hQ _ _ _ h
      · exact .inr ⟨h1, a', w', hQ _ _ _ h2⟩
    · rename_i hw
      rw [if_neg hw] at h
      exact ih _ h
/-- the only one that may come up, and not the last -/
theorem WG_mid {S : World → Prop} {n fuel i : Nat} {listed listed' : List Bool} {o : Oper} (hi : l[i]? = some o) (hg : o.guard = none) (hr : Region.ready .any l.toArray listed.toArray = [i]) (hin : Nat.beq i n = false) (hls : listed.set i true = listed')
    (h : WL P N l.toArray (midP P N l Q S n fuel listed') [o] f w) : WG P N l Q S n (fuel + 1) listed f w := by
  subst hls
  refine WG_one hi (by simp [Region.wanted, hg]) hr (WL_mono (fun e f w q => ?_) h)
  have hne : i ≠ n := fun e => by subst e; simp at hin
  cases e with
  | normal => simp only [onlyN]; rw [if_neg hne]; exact q
  | _ => exact q.elim
theorem WG_fin {S : World → Prop} {n fuel : Nat} {listed listed' : List Bool} {o : Oper} (hi : l[n]? = some o) (hg : o.guard = none) (hr : Region.ready .any l.toArray listed.toArray = [n]) (hls : listed.set n true = listed') (hr' : Region.ready .any l.toArray listed'.toArray = [])
    (h : WL P N l.toArray (finP P N l Q) [o] f w) : WG P N l Q S n (fuel + 1) listed f w := by
  subst hls
  refine WG_one hi (by simp [Region.wanted, hg]) hr (WL_mono (fun e f w q => ?_) h)
  cases e with
  | normal =>
    simp only [onlyN]
    rw [if_pos trivial]
    cases fuel with
    | zero => exact ⟨hr', f, rfl, q⟩
    | succ fuel => exact ⟨fun _ => ⟨f, rfl, q⟩, by rw [hr']; simp⟩
  | _ => exact q.elim
theorem WG_midG {S : World → Prop} {n fuel i : Nat} {j t : Nat} {want : Bool} {listed listed' : List Bool} {o : Oper} (hi : l[i]? = some o) (hg : o.guard = some (j, want)) (hj : guardT l.toArray j = some t) (ht : Nat.blt t N = true) (hb : f t = .bool want) (hr : Region.ready .any l.toArray listed.toArray = [i]) (hin : Nat.beq i n = false) (hls : listed.set i true = listed')
    (h : WL P N l.toArray (midP P N l Q S n fuel listed') [o] f w) : WG P N l Q S n (fuel + 1) listed f w := by
  subst hls
  refine WG_one hi (by simp [Region.wanted, hg, yielded_mk hj ht hb]) hr (WL_mono (fun e f w q => ?_) h)
  have hne : i ≠ n := fun e => by subst e; simp at hin
  cases e with
  | normal => simp only [onlyN]; rw [if_neg hne]; exact q
  | _ => exact q.elim
theorem WG_finG {S : World → Prop} {n fuel : Nat} {j t : Nat} {want : Bool} {listed listed' : List Bool} {o : Oper} (hi : l[n]? = some o) (hg : o.guard = some (j, want)) (hj : guardT l.toArray j = some t) (ht : Nat.blt t N = true) (hb : f t = .bool want) (hr : Region.ready .any l.toArray listed.toArray = [n]) (hls : listed.set n true = listed') (hr' : Region.ready .any l.toArray listed'.toArray = [])
    (h : WL P N l.toArray (finP P N l Q) [o] f w) : WG P N l Q S n (fuel + 1) listed f w := by
  subst hls
  refine WG_one hi (by simp [Region.wanted, hg, yielded_mk hj ht hb]) hr (WL_mono (fun e f w q => ?_) h)
  cases e with
  | normal =>
    simp only [onlyN]
    rw [if_pos trivial]
    cases fuel with
    | zero => exact ⟨hr', f, rfl, q⟩
    | succ fuel => exact ⟨fun _ => ⟨f, rfl, q⟩, by rw [hr']; simp⟩
  | _ => exact q.elim
theorem WG_done {S : World → Prop} {n fuel : Nat} {listed : List Bool} (hr : Region.ready .any l.toArray listed.toArray = []) (h : Q .normal f w) : WG P N l Q S n fuel listed f w := by
  unfold WG
  cases fuel with
  | zero => exact ⟨hr, f, rfl, h⟩
  | succ fuel => exact ⟨fun _ => ⟨f, rfl, h⟩, by rw [hr]; simp⟩
/-- the only one that may come up; behind it another S holds -/
def nextP (P : Program) (N : Nat) (l : List Oper) (Q : Post) (S : World → Prop) (n fuel : Nat) (listed : List Bool) : Post
  | .normal, f, w => WG P N l Q S n fuel listed f w
  | _, _, _ => False
theorem WG_next {S : World → Prop} {n fuel : Nat} (S' : World → Prop) (n' : Nat) {listed listed' : List Bool} {o : Oper} (hi : l[n]? = some o) (hg : o.guard = none) (hr : Region.ready .any l.toArray listed.toArray = [n]) (hls : listed.set n true = listed')
    (h : WL P N l.toArray (nextP P N l Q S' n' fuel listed') [o] f w) : WG P N l Q S n (fuel + 1) listed f w := by
  subst hls
  refine WG_one hi (by simp [Region.wanted, hg]) hr (WL_mono (fun e f w q => ?_) h)
  cases e with
  | normal =>
    simp only [onlyN]
    rw [if_pos trivial]
    exact wpAny_ofG (n := n') (S := S') _ _ _ _ q
  | _ => exact q.elim
theorem nx_mk {S : World → Prop} {n fuel : Nat} {listed : List Bool} (h : WG P N l Q S n fuel listed f w) : nextP P N l Q S n fuel listed .normal f w := h
theorem wpAnyG_true {ops : Array Oper} {Q : Exit → Act → World → Prop} {n : Nat} (hn : ops.size ≤ n) : ∀ (fuel : Nat) (listed : Array Bool) (a : Act) (w : World), wpAny P .any ops Q fuel listed a w → wpAnyG P ops Q (fun _ => True) n fuel listed a w
  | 0, _, _, _, h => h
  | fuel + 1, _, _, _, h => ⟨h.1, fun i hi => wpOp_mono (fun a' w' h' => by
      obtain ⟨_, oi, hoi, _⟩ := mem_ready.1 hi
      have : i < ops.size := (Array.getElem?_eq_some_iff.1 hoi).1
      rw [if_neg (by omega)]
      exact ⟨trivial, wpAnyG_true hn fuel _ a' w' h'⟩) (h.2 i hi)⟩
/-- what leans on no memory was taken ahead of all -/
theorem WG_true {m n fuel : Nat} {S : World → Prop} {listed : List Bool} (hm : Nat.ble l.length m = true) (h : WG P N l Q S n fuel listed f w) : WG P N l Q (fun _ => True) m fuel listed f w :=
  wpAnyG_true (by simpa using Nat.le_of_ble_eq_true hm) _ _ _ _ (wpAny_ofG _ _ _ _ h)
theorem WC_drawT {id m : Nat} {w0 : World} {M : List Nat} {cs ro : List Ck} {listed : List Bool} (hm : P.follows .mixedOrders = true) (hl : l.length = m) (hr : List.replicate m false = listed) (H : St w0 M cs ro w)
    (h : ∀ w', St w0 M cs ro w' → WG P N l Q (fun _ => True) m m listed f w') : WC P N (.region id l.toArray true) Q f w :=
  WC_draw m hm hl hr (h _ (H.quiet (Fr.drew w)))
/-- behind the operation on which the others wait: nothing is left -/
theorem WG_last {n fuel : Nat} {listed : List Bool} (hr : Region.ready .any l.toArray listed.toArray = []) (h : Q .normal f w) : wpAny P .any l.toArray (lift N (onlyN Q)) fuel listed.toArray (mk N f) w := by
  cases fuel with
  | zero => exact ⟨hr, f, rfl, h⟩
  | succ fuel => exact ⟨fun _ => ⟨f, rfl, h⟩, by rw [hr]; simp⟩
end
end Go.HW
