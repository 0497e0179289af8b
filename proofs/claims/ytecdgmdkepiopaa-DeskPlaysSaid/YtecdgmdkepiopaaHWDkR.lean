import Derived.Test.YtecdgmdkepiopaaHWDkA
import Derived.Test.YtecdgmdkepiopaaHWDice
set_option linter.unusedSimpArgs false
set_option linter.unusedVariables false
set_option linter.unusedSectionVars false
namespace Go.Proofs.Ytecdgmdkepiopaa
open Go Go.HW Go.RowKit
attribute [local irreducible] WL WC WG wpList Code.wp

def tabS : List ByteArray := [(ByteArray.mk #[115, 116, 111, 112, 32]), (ByteArray.mk #[115, 101, 116, 32, 65, 110]), (ByteArray.mk #[108, 111, 97, 100, 32, 65, 99]), (ByteArray.mk #[115, 116, 111, 114, 101, 32, 65, 99]), (ByteArray.mk #[108, 111, 97, 100, 97, 116, 32, 65, 66, 99]), (ByteArray.mk #[115, 116, 111, 114, 101, 97, 116, 32, 65, 66, 99]), (ByteArray.mk #[97, 100, 100, 32, 65, 66, 67]), (ByteArray.mk #[115, 117, 98, 32, 65, 66, 67]), (ByteArray.mk #[109, 117, 108, 32, 65, 66, 67]), (ByteArray.mk #[100, 105, 118, 32, 65, 66, 67]), (ByteArray.mk #[109, 111, 100, 32, 65, 66, 67]), (ByteArray.mk #[97, 110, 100, 32, 65, 66, 67]), (ByteArray.mk #[111, 114, 32, 65, 66, 67]), (ByteArray.mk #[120, 111, 114, 32, 65, 66, 67]), (ByteArray.mk #[115, 104, 108, 32, 65, 66, 67]), (ByteArray.mk #[115, 104, 114, 32, 65, 66, 67]), (ByteArray.mk #[108, 101, 115, 115, 32, 65, 66, 67]), (ByteArray.mk #[101, 113, 117, 97, 108, 32, 65, 66, 67]), (ByteArray.mk #[115, 101, 108, 101, 99, 116, 32, 65, 66, 67]), (ByteArray.mk #[98, 114, 97, 110, 99, 104, 32, 65, 112]), (ByteArray.mk #[106, 117, 109, 112, 32, 112]), (ByteArray.mk #[109, 111, 118, 101, 32, 65, 109]), (ByteArray.mk #[114, 101, 118, 101, 97, 108, 32, 66, 99, 75]), (ByteArray.mk #[114, 111, 108, 108, 32, 65, 115]), (ByteArray.mk #[115, 104, 117, 102, 102, 108, 101, 32, 114]), (ByteArray.mk #[99, 108, 111, 99, 107, 32, 65])]
theorem tabS_len : tabS.length = 26 := rfl
def uOf (k : Nat) : ByteArray := (tabS.getD k ByteArray.empty).extract (firstSp (tabS.getD k ByteArray.empty) + 1) (tabS.getD k ByteArray.empty).size
def rr1 (u : ByteArray) (c : Cd) : Bool := (decide (c.a > 0) && (!hasB u 65 || decide (c.a > 7))) || (decide (c.b > 0) && (!hasB u 66 || decide (c.b > 7))) || (decide (c.m > 0) && !hasB u 75)
def rr2 (u : ByteArray) (c : Cd) (size cells pl : Int) : Bool :=
  if hasB u 114 = true then (((decide (c.c > 0) && decide (c.c < 49)) && decide (c.n ≥ 0)) && decide (c.n < cells)) && decide (c.n + c.c ≤ cells)
  else if (decide (c.c > 0) && (!hasB u 67 || decide (c.c > 7))) = true then false
  else if hasB u 110 = true then true else if hasB u 99 = true then decide (c.n ≥ 0) && decide (c.n < cells) else if hasB u 112 = true then decide (c.n ≥ 0) && decide (c.n ≤ size)
  else if hasB u 109 = true then decide (c.n ≥ 0) && decide (c.n < pl) else if hasB u 115 = true then decide (c.n > 0) else decide (c.n = 0)
def refR (c : Cd) (size cells pl : Int) : Bool := if c.op > 25 then false else if rr1 (uOf c.op.toNat) c = true then false else rr2 (uOf c.op.toNat) c size cells pl
def flags (u : ByteArray) : List Bool := [65, 66, 67, 75, 114, 110, 99, 112, 109, 115].map (hasB u)
def flagsU (u : Use) : List Bool := [u.a, u.b, u.c, u.m, u.k == 6, u.k == 1, u.k == 2, u.k == 3, u.k == 4, u.k == 5]
theorem flags_all : (List.range 26).all (fun k => flags (uOf k) == flagsU (usesTab.getD k default)) = true := by decide +kernel
theorem rows_all : (List.range 26).all (fun k => !((usesTab.getD k default).k == 6) || (!(usesTab.getD k default).a && !(usesTab.getD k default).b && !(usesTab.getD k default).m)) = true := by decide +kernel
theorem sizes_all : (List.range 26).all (fun k => decide ((tabS.getD k ByteArray.empty).size ≤ 20)) = true := by decide +kernel
theorem spaces_all : (List.range 26).all (fun k => decide (firstSp (tabS.getD k ByteArray.empty) < (tabS.getD k ByteArray.empty).size ∧ 0 < firstSp (tabS.getD k ByteArray.empty))) = true := by decide +kernel
theorem reg_zero {x : Int} (h : 0 ≤ x) (b : Bool) : regB b x = !(decide (x > 0) && (!b || decide (x > 7))) := by
  unfold regB
  by_cases h0 : x = 0
  · subst h0; simp
  · have : x > 0 := by omega
    cases b
    · simp [h0, this]
    · simp only [h0, decide_false, Bool.true_and, Bool.false_or, this, decide_true, Bool.not_true]
      by_cases h8 : x < 8
      · rw [decide_eq_true h8, decide_eq_false (show ¬ x > 7 by omega)]; rfl
      · rw [decide_eq_false h8, decide_eq_true (show x > 7 by omega)]; rfl
theorem or_zero : ∀ a b : Int, (0 ≤ a ∧ a ≤ 255) → (0 ≤ b ∧ b ≤ 255) → (bits .or .u8 a b = 0 ↔ a = 0 ∧ b = 0) := by
  intro a b ha hb
  have e : bits .or .u8 a b = ((BitVec.ofInt 8 a ||| BitVec.ofInt 8 b).toNat : Int) := by
    unfold bits
    have := (BitVec.ofInt 8 a ||| BitVec.ofInt 8 b).isLt
    show IntKind.u8.wrap _ = _
    exact u8_in (by omega) (by show ((BitVec.ofInt 8 a ||| BitVec.ofInt 8 b).toNat : Int) ≤ _; omega)
  have h1 : (BitVec.ofInt 8 a).toNat = a.toNat := by rw [BitVec.toNat_ofInt]; have : a % ((2 ^ 8 : Nat) : Int) = a := Int.emod_eq_of_lt ha.1 (by have : ((2 ^ 8 : Nat) : Int) = 256 := rfl; omega); rw [this]
  have h2 : (BitVec.ofInt 8 b).toNat = b.toNat := by rw [BitVec.toNat_ofInt]; have : b % ((2 ^ 8 : Nat) : Int) = b := Int.emod_eq_of_lt hb.1 (by have : ((2 ^ 8 : Nat) : Int) = 256 := rfl; omega); rw [this]
  rw [e, BitVec.toNat_or, h1, h2]
  constructor
  · intro h
    have h3 : a.toNat ||| b.toNat = 0 := by omega
    have := Nat.or_eq_zero_iff.1 h3
    omega
  · rintro ⟨rfl, rfl⟩; rfl
theorem refR_eq (c : Cd) (hc : c.ok) (size cells pl : Int) : refR c size cells pl = rightB c size cells pl := by
  obtain ⟨op0, op1, a0, a1, b0, b1, c0, c1, n0, n1, m0, m1⟩ := hc
  unfold refR rightB
  by_cases hop : c.op > 25
  · rw [if_pos hop, if_pos hop]
  · rw [if_neg hop, if_neg hop]
    have hfl := List.all_eq_true.1 flags_all c.op.toNat (by simp; omega)
    have hfl2 := eq_of_beq hfl
    have hrw := List.all_eq_true.1 rows_all c.op.toNat (by simp; omega)
    generalize usesTab.getD c.op.toNat default = U at hfl2 hrw ⊢
    generalize uOf c.op.toNat = u at hfl2 ⊢
    obtain ⟨ua, ub, uc, uk, um⟩ := U
    simp only [flags, flagsU, List.map_cons, List.map_nil, List.cons.injEq, and_true] at hfl2
    obtain ⟨fa, fb, fc, fm, f6, f1, f2, f3, f4, f5⟩ := hfl2
    unfold rr1 rr2
    rw [fa, fb, fc, fm, f6, f1, f2, f3, f4, f5]
    simp only
    clear fa fb fc fm f6 f1 f2 f3 f4 f5 hfl
    simp only at hrw
    rw [reg_zero b0 ub, reg_zero a0 ua, reg_zero c0 uc]
    have hm : (decide (c.m > 0)) = !decide (c.m = 0) := by
      by_cases hm : c.m = 0
      · simp [hm]
      · rw [decide_eq_true (show c.m > 0 by omega), decide_eq_false hm]; rfl
    rw [hm]
    generalize decide (c.m = 0) = dm
    generalize (decide (c.c > 0) && (!uc || decide (c.c > 7))) = dc
    by_cases h6 : uk = 6
    · subst h6
      simp only [BEq.rfl, Bool.not_true, Bool.false_or, Bool.and_eq_true, Bool.not_eq_true'] at hrw
      obtain ⟨⟨rfl, rfl⟩, rfl⟩ := hrw
      have hor := or_zero c.a c.b ⟨a0, a1⟩ ⟨b0, b1⟩
      have hr : regB false (bits .or .u8 c.a c.b) = (!decide (c.a > 0) && !decide (c.b > 0)) := by
        simp only [regB, Bool.false_and, Bool.or_false]
        by_cases ha : c.a = 0
        · by_cases hb : c.b = 0
          · rw [decide_eq_true (hor.2 ⟨ha, hb⟩), ha, hb]; rfl
          · rw [decide_eq_false (fun h => hb (hor.1 h).2), decide_eq_true (show c.b > 0 by omega)]; simp
        · rw [decide_eq_false (fun h => ha (hor.1 h).1), decide_eq_true (show c.a > 0 by omega)]; simp
      rw [hr]
      have hcell : ((((decide (c.c > 0) && decide (c.c < 49)) && decide (c.n ≥ 0)) && decide (c.n < cells)) && decide (c.n + c.c ≤ cells)) = ((decide (1 ≤ c.c) && decide (c.c ≤ 48)) && decide (0 ≤ c.n) && decide (c.n + c.c ≤ cells)) := by
        rw [Bool.eq_iff_iff]; simp only [Bool.and_eq_true, decide_eq_true_eq]; omega
      simp only [BEq.rfl, if_true]
      rw [hcell]
      generalize decide (1 ≤ c.c) = d1
      generalize decide (c.c ≤ 48) = d2
      generalize decide (0 ≤ c.n) = d3
      generalize decide (c.n + c.c ≤ cells) = d4
      generalize decide (c.a > 0) = d5
      generalize decide (c.b > 0) = d6
      generalize decide (c.a > 7) = d7
      generalize decide (c.b > 7) = d8
      clear hcell hr hor hm
      revert d1 d2 d3 d4 d5 d6 d7 d8 dm
      decide
    · have e6 : (uk == 6) = false := by simpa using h6
      simp only [e6, Bool.false_eq_true, if_false, if_neg h6]
      generalize (decide (c.a > 0) && (!ua || decide (c.a > 7))) = da
      generalize (decide (c.b > 0) && (!ub || decide (c.b > 7))) = db
      have hk : (if (uk == 1) = true then true else if (uk == 2) = true then decide (c.n ≥ 0) && decide (c.n < cells) else if (uk == 3) = true then decide (c.n ≥ 0) && decide (c.n ≤ size)
          else if (uk == 4) = true then decide (c.n ≥ 0) && decide (c.n < pl) else if (uk == 5) = true then decide (c.n > 0) else decide (c.n = 0)) = kindB uk c.n size cells pl := by
        unfold kindB
        simp only [beq_iff_eq]
        rfl
      rw [hk]
      generalize kindB uk c.n size cells pl = dk
      clear hk hm hrw e6 h6
      revert da db dc dm um dk
      decide

theorem table_ok (W : World) : Calls Try.prog 63 #[] W fun e w' => ∃ b, e = .returned (.slice (some ⟨b, 0, none⟩) 26 26) ∧ Fr [] W w' ∧ (row (some ⟨b, 0, none⟩) 26 9 1 26 (tabS.map .string)).ok w' := by
  have H : St W [] [] [] W := St.start [] (by simp)
  refine calls_enter (N := 2) Try.func63 rfl Try.ntmps63 rfl ?_
  refine WC_seq ?_
  refine WC_region ?_
  refine WL_x (x_assign (v := (.slice none 0 0)) rfl) ?_
  refine WL_nil ?_
  refine thenE_normal ?_
  refine WC_seq ?_
  refine WC_region ?_
  refine WL_buildSliceS (s := 1) (z0 := [(.string (ByteArray.mk #[]))]) (zero := [(.string (ByteArray.mk #[])), (.string (ByteArray.mk #[])), (.string (ByteArray.mk #[])), (.string (ByteArray.mk #[])), (.string (ByteArray.mk #[])), (.string (ByteArray.mk #[])), (.string (ByteArray.mk #[])), (.string (ByteArray.mk #[])), (.string (ByteArray.mk #[])), (.string (ByteArray.mk #[])), (.string (ByteArray.mk #[])), (.string (ByteArray.mk #[])), (.string (ByteArray.mk #[])), (.string (ByteArray.mk #[])), (.string (ByteArray.mk #[])), (.string (ByteArray.mk #[])), (.string (ByteArray.mk #[])), (.string (ByteArray.mk #[])), (.string (ByteArray.mk #[])), (.string (ByteArray.mk #[])), (.string (ByteArray.mk #[])), (.string (ByteArray.mk #[])), (.string (ByteArray.mk #[])), (.string (ByteArray.mk #[])), (.string (ByteArray.mk #[])), (.string (ByteArray.mk #[]))]) (cells := (tabS.map Value.string)) (vs := [(0, (.string (ByteArray.mk #[115, 116, 111, 112, 32]))), (1, (.string (ByteArray.mk #[115, 101, 116, 32, 65, 110]))), (2, (.string (ByteArray.mk #[108, 111, 97, 100, 32, 65, 99]))), (3, (.string (ByteArray.mk #[115, 116, 111, 114, 101, 32, 65, 99]))), (4, (.string (ByteArray.mk #[108, 111, 97, 100, 97, 116, 32, 65, 66, 99]))), (5, (.string (ByteArray.mk #[115, 116, 111, 114, 101, 97, 116, 32, 65, 66, 99]))), (6, (.string (ByteArray.mk #[97, 100, 100, 32, 65, 66, 67]))), (7, (.string (ByteArray.mk #[115, 117, 98, 32, 65, 66, 67]))), (8, (.string (ByteArray.mk #[109, 117, 108, 32, 65, 66, 67]))), (9, (.string (ByteArray.mk #[100, 105, 118, 32, 65, 66, 67]))), (10, (.string (ByteArray.mk #[109, 111, 100, 32, 65, 66, 67]))), (11, (.string (ByteArray.mk #[97, 110, 100, 32, 65, 66, 67]))), (12, (.string (ByteArray.mk #[111, 114, 32, 65, 66, 67]))), (13, (.string (ByteArray.mk #[120, 111, 114, 32, 65, 66, 67]))), (14, (.string (ByteArray.mk #[115, 104, 108, 32, 65, 66, 67]))), (15, (.string (ByteArray.mk #[115, 104, 114, 32, 65, 66, 67]))), (16, (.string (ByteArray.mk #[108, 101, 115, 115, 32, 65, 66, 67]))), (17, (.string (ByteArray.mk #[101, 113, 117, 97, 108, 32, 65, 66, 67]))), (18, (.string (ByteArray.mk #[115, 101, 108, 101, 99, 116, 32, 65, 66, 67]))), (19, (.string (ByteArray.mk #[98, 114, 97, 110, 99, 104, 32, 65, 112]))), (20, (.string (ByteArray.mk #[106, 117, 109, 112, 32, 112]))), (21, (.string (ByteArray.mk #[109, 111, 118, 101, 32, 65, 109]))), (22, (.string (ByteArray.mk #[114, 101, 118, 101, 97, 108, 32, 66, 99, 75]))), (23, (.string (ByteArray.mk #[114, 111, 108, 108, 32, 65, 115]))), (24, (.string (ByteArray.mk #[115, 104, 117, 102, 102, 108, 101, 32, 114]))), (25, (.string (ByteArray.mk #[99, 108, 111, 99, 107, 32, 65])))]) Try.underlying126 (by kernel_rfl) (by kernel_rfl) rfl rfl rfl rfl H ?_
  clear H; intro b1 w H
  refine WL_x (x_assign (v := .slice _ _ _) rfl) ?_
  refine WL_nil ?_
  refine thenE_normal ?_
  refine WC_ret ?_
  refine ends1 (v := .slice _ _ _) Try.results63 rfl ?_
  replace H := H.toRow 26 1 .zero rfl (by simp [maxLen])
  exact ⟨b1, rfl, H.fr, H.ok _ (Has.mem .zero)⟩

theorem has_ok (W : World) (s : ByteArray) (c : Int) (hs : s.size ≤ 1000000) : Calls Try.prog 61 #[.string s, .int .u8 c] W fun e w' => e = .returned (.bool (hasB s c)) ∧ Fr [] W w' := by
  have H : St W [] [] [] W := St.start [] (by simp)
  refine calls_enter (N := 17) Try.func61 rfl Try.ntmps61 rfl ?_
  refine WC_seq ?_
  refine WC_region ?_
  refine WL_x (x_assign (v := (.bool false)) rfl) ?_
  refine WL_nil ?_
  refine thenE_normal ?_
  refine WC_seq ?_
  refine WC_seq ?_
  refine WC_region ?_
  refine WL_x (x_assign (v := (.int .i64 0)) rfl) ?_
  refine WL_nil ?_
  refine thenE_normal ?_
  refine WC_block ?_
  refine WC_while (fun (i : Nat) f w' => i ≤ s.size ∧ (∀ j, j < i → (byteN s j : Int) ≠ c) ∧ f 5 = .int .i64 i ∧ f 0 = .string s ∧ f 1 = .int .u8 c ∧ St W [] [] [] w') (fun i => s.size - i) (s0 := 0) ?_ ?_
  · exact ⟨Nat.zero_le _, by omega, rfl, rfl, rfl, H⟩
  · clear H
    rintro i f w ⟨hi, hno, h5, h0, h1, H⟩
    rw [← upd_self h5, ← upd_self h0, ← upd_self h1]
    refine WC_seq ?_
    refine WC_seq ?_
    refine WC_region ?_
    refine WL_x (x_move (v := .int .i64 _) rfl) ?_
    refine WL_x (x_move (v := .string _) rfl) ?_
    refine WL_x (x_len_str Try.underlying9 rfl) ?_
    refine WL_x (x_binop rfl rfl (r_lss _ _ _ _)) ?_
    refine WL_nil ?_
    refine thenE_normal ?_
    refine WC_ifd rfl (fun h9 => ?_) (fun h9 => ?_)
    · refine WC_skip ?_
      refine thenE_normal ?_
      refine WC_seq ?_
      refine WC_block ?_
      refine WC_seq ?_
      refine WC_region ?_
      refine WL_x (x_move (v := .string _) rfl) ?_
      refine WL_x (x_move (v := .int .i64 _) rfl) ?_
      refine WL_x (x_index_str (n := s.size) Try.underlying9 rfl rfl rfl (by omega) (by omega)) ?_
      refine WL_x (x_move (v := .int .u8 _) rfl) ?_
      refine WL_x (x_binop rfl rfl (r_eql _ _ _ _)) ?_
      refine WL_nil ?_
      refine thenE_normal ?_
      refine WC_ifd rfl (fun h16 => ?_) (fun h16 => ?_)
      · have hR := hasB_yes (s := s) (c := c) (i := i) (by omega) h16
        refine WC_seq ?_
        refine WC_region ?_
        refine WL_x (x_assign (v := (.bool true)) rfl) ?_
        refine WL_nil ?_
        refine thenE_normal ?_
        refine WC_ret ?_
        refine inBlockE_ret ?_
        refine thenE_ret ?_
        refine thenE_ret ?_
        refine inBlockE_ret ?_
        refine thenE_ret ?_
        refine ends1 (v := .bool _) Try.results61 rfl ?_
        exact ⟨by rw [hR], H.fr⟩
      · rw [Int.toNat_natCast] at h16
        change ¬ (byteN s i : Int) = c at h16
        refine WC_skip ?_
        refine inBlockE_normal ?_
        refine thenE_normal ?_
        refine WC_region ?_
        refine WL_x (x_move (v := .int .i64 _) rfl) ?_
        refine WL_x (x_binop rfl rfl (r_add_in (i64_in (by omega) (by omega)))) ?_
        refine WL_x (x_assign (v := .int .i64 _) rfl) ?_
        refine WL_nil ?_
        refine thenE_normal ?_
        refine ⟨i + 1, ⟨by omega, fun j hj => ?_, rfl, rfl, rfl, H⟩, by omega⟩
        rcases Nat.lt_or_ge j i with h | h
        · exact hno j h
        · obtain rfl : j = i := by omega
          exact h16
    · have hR := hasB_no (s := s) (c := c) (fun j hj => hno j (by omega))
      refine WC_exit ?_
      refine thenE_exit ?_
      refine thenE_exit ?_
      refine inBlockE_exit ?_
      refine thenE_normal ?_
      refine WC_seq ?_
      refine WC_region ?_
      refine WL_x (x_assign (v := (.bool false)) rfl) ?_
      refine WL_nil ?_
      refine thenE_normal ?_
      refine WC_ret ?_
      refine ends1 (v := .bool _) Try.results61 rfl ?_
      exact ⟨by rw [hR], H.fr⟩

theorem parts_ok (W : World) (op : Int) (h : 0 ≤ op ∧ op ≤ 255) : Calls Try.prog 60 #[.int .u8 op] W fun e w' => ∃ x u, e = .returned (.tuple #[.string x, .string u]) ∧ (op > 25 → x.toList = []) ∧ (op ≤ 25 → x.toList ≠ [] ∧ u = uOf op.toNat) ∧ Fr [] W w' := by
  have H : St W [] [] [] W := St.start [] (by simp)
  refine calls_enter (N := 35) Try.func60 rfl Try.ntmps60 rfl ?_
  refine WC_seq ?_
  refine WC_region ?_
  refine WL_x (x_assign (v := (.string (ByteArray.mk #[]))) rfl) ?_
  refine WL_x (x_assign (v := (.string (ByteArray.mk #[]))) rfl) ?_
  refine WL_nil ?_
  refine thenE_normal ?_
  refine WC_seq ?_
  refine WC_region ?_
  refine WL_call (vs := []) Try.func63 rfl rfl rfl (table_ok _) ?_
  rintro _ w ⟨b, rfl, hf, hok⟩
  refine ⟨_, rfl, ?_⟩
  replace H := H.quiet hf
  have hrow := hok
  refine WL_x (x_assign (v := .slice _ _ _) rfl) ?_
  refine WL_nil ?_
  refine thenE_normal ?_
  refine WC_seq ?_
  refine WC_seq ?_
  refine WC_region ?_
  refine WL_x (x_move (v := .int .u8 _) rfl) ?_
  refine WL_x (x_convert Try.underlying5 Try.underlying3 rfl (i64_in (by omega) (by omega))) ?_
  refine WL_x (x_move (v := .slice _ _ _) rfl) ?_
  refine WL_x (x_len Try.underlying126 rfl) ?_
  refine WL_x (x_binop rfl rfl (r_geq _ _ _ _)) ?_
  refine WL_nil ?_
  refine thenE_normal ?_
  refine WC_ifd rfl (fun h12 => ?_) (fun h12 => ?_)
  · refine WC_seq ?_
    refine WC_region ?_
    refine WL_x (x_assign (v := (.string (ByteArray.mk #[]))) rfl) ?_
    refine WL_x (x_assign (v := (.string (ByteArray.mk #[]))) rfl) ?_
    refine WL_nil ?_
    refine thenE_normal ?_
    refine WC_ret ?_
    refine thenE_ret ?_
    refine ends2 (v1 := .string _) (v2 := .string _) Try.results60 rfl rfl ?_
    first
      | exact ⟨_, _, rfl, fun _ => ba_empty, fun hh => absurd hh (by omega), H.fr⟩
      | (refine ⟨_, _, rfl, fun hh => absurd hh (by omega), fun _ => ⟨?_, ?_⟩, H.fr⟩
         · intro e
           have e2 := ba_nil e
           rw [Int.toNat_natCast] at e2
           rw [ByteArray.size_extract] at e2
           omega
         · unfold uOf
           first | (rw [← hs, hfs]; done) | rw [← hs, hfs, show ((i : Int) + 1).toNat = i + 1 by omega])
  · obtain ⟨s, hs⟩ : ∃ s, s = tabS.getD op.toNat ByteArray.empty := ⟨_, rfl⟩
    have hget : tabS[op.toNat]? = some s := by rw [hs, List.getD_eq_getElem?_getD, List.getElem?_eq_getElem (show op.toNat < tabS.length by rw [tabS_len]; omega)]; rfl
    have hsp := of_decide_eq_true (List.all_eq_true.1 spaces_all op.toNat (by simp; omega))
    have hsz := of_decide_eq_true (List.all_eq_true.1 sizes_all op.toNat (by simp; omega))
    rw [← hs] at hsp hsz
    refine WC_skip ?_
    refine thenE_normal ?_
    refine WC_seq ?_
    refine WC_region ?_
    refine WL_x (x_move (v := .slice _ _ _) rfl) ?_
    refine WL_x (x_move (v := .int .u8 _) rfl) ?_
    refine WL_x (x_indexAddr (s := 1) Try.underlying126 (by kernel_rfl) rfl rfl (by omega) (by omega) (rfl) rfl) ?_
    have hrow2 := hrow
    refine WL_x (x_load (v := .string _) Try.underlying9 rfl rfl ((owns_cells hrow2.r).at_ _ (.string s) (by rw [List.getElem?_map, Nat.mul_one, hget]; rfl))) ?_
    refine WL_x (x_assign (v := .string _) rfl) ?_
    refine WL_nil ?_
    refine thenE_normal ?_
    refine WC_seq ?_
    refine WC_seq ?_
    refine WC_region ?_
    refine WL_x (x_assign (v := (.int .i64 0)) rfl) ?_
    refine WL_nil ?_
    refine thenE_normal ?_
    refine WC_block ?_
    refine WC_while (fun (i : Nat) f w' => i ≤ s.size ∧ (∀ j, j < i → byteN s j ≠ 32) ∧ f 6 = .int .i64 i ∧ f 5 = .string s ∧ St W [] [] [] w') (fun i => s.size - i) (s0 := 0) ?_ ?_
    · exact ⟨Nat.zero_le _, by omega, rfl, rfl, H⟩
    · clear H
      rintro i f w ⟨hi, hno, h6, h5, H⟩
      rw [← upd_self h6, ← upd_self h5]
      refine WC_seq ?_
      refine WC_seq ?_
      refine WC_region ?_
      refine WL_x (x_move (v := .int .i64 _) rfl) ?_
      refine WL_x (x_move (v := .string _) rfl) ?_
      refine WL_x (x_len_str Try.underlying9 rfl) ?_
      refine WL_x (x_binop rfl rfl (r_lss _ _ _ _)) ?_
      refine WL_nil ?_
      refine thenE_normal ?_
      refine WC_ifd rfl (fun h20 => ?_) (fun h20 => ?_)
      · refine WC_skip ?_
        refine thenE_normal ?_
        refine WC_seq ?_
        refine WC_block ?_
        refine WC_seq ?_
        refine WC_region ?_
        refine WL_x (x_move (v := .string _) rfl) ?_
        refine WL_x (x_move (v := .int .i64 _) rfl) ?_
        refine WL_x (x_index_str (n := s.size) Try.underlying9 rfl rfl rfl (by omega) (by omega)) ?_
        refine WL_x (x_binop rfl rfl (r_eql _ _ _ _)) ?_
        refine WL_nil ?_
        refine thenE_normal ?_
        refine WC_ifd rfl (fun h26 => ?_) (fun h26 => ?_)
        · rw [Int.toNat_natCast] at h26
          change (byteN s i : Int) = 32 at h26
          have hfs := firstSp_eq (s := s) (i := i) (by omega) (by omega) hno
          refine WC_seq ?_
          refine WC_drawH (m := 9) (listed := [false, false, false, false, false, false, false, false, false]) 9 (by kernel_rfl) rfl rfl H ?_
          intro w H
          refine WG_take (i := 0) (listed' := [true, false, false, false, false, false, false, false, false]) rfl (by kernel_rfl) (fun w H => x_move (v := .string _) rfl) H rfl ?_
          refine WG_take (i := 1) (listed' := [true, true, false, false, false, false, false, false, false]) rfl (by kernel_rfl) (fun w H => x_move (v := .int .i64 _) rfl) H rfl ?_
          refine WG_take (i := 2) (listed' := [true, true, true, false, false, false, false, false, false]) rfl (by kernel_rfl) (fun w H => x_slice_str_h Try.underlying9 rfl rfl (by omega) (by omega)) H rfl ?_
          refine WG_take (i := 3) (listed' := [true, true, true, true, false, false, false, false, false]) rfl (by kernel_rfl) (fun w H => x_move (v := .string _) rfl) H rfl ?_
          refine WG_take (i := 4) (listed' := [true, true, true, true, true, false, false, false, false]) rfl (by kernel_rfl) (fun w H => x_move (v := .int .i64 _) rfl) H rfl ?_
          refine WG_take (i := 5) (listed' := [true, true, true, true, true, true, false, false, false]) rfl (by kernel_rfl) (fun w H => x_binop rfl rfl (r_add_in (i64_in (by omega) (by omega)))) H rfl ?_
          refine WG_take (i := 6) (listed' := [true, true, true, true, true, true, true, false, false]) rfl (by kernel_rfl) (fun w H => x_slice_str_l Try.underlying9 rfl rfl (by omega) (by omega)) H rfl ?_
          refine WG_take (i := 7) (listed' := [true, true, true, true, true, true, true, true, false]) rfl (by kernel_rfl) (fun w H => x_assign (v := .string _) rfl) H rfl ?_
          refine WG_take (i := 8) (listed' := [true, true, true, true, true, true, true, true, true]) rfl (by kernel_rfl) (fun w H => x_assign (v := .string _) rfl) H rfl ?_
          refine WG_done (by kernel_rfl) ?_
          refine thenE_normal ?_
          refine WC_ret ?_
          refine inBlockE_ret ?_
          refine thenE_ret ?_
          refine thenE_ret ?_
          refine inBlockE_ret ?_
          refine thenE_ret ?_
          refine ends2 (v1 := .string _) (v2 := .string _) Try.results60 rfl rfl ?_
          first
            | exact ⟨_, _, rfl, fun _ => ba_empty, fun hh => absurd hh (by omega), H.fr⟩
            | (refine ⟨_, _, rfl, fun hh => absurd hh (by omega), fun _ => ⟨?_, ?_⟩, H.fr⟩
               · intro e
                 have e2 := ba_nil e
                 rw [Int.toNat_natCast] at e2
                 rw [ByteArray.size_extract] at e2
                 omega
               · unfold uOf
                 first | (rw [← hs, hfs]; done) | rw [← hs, hfs, show ((i : Int) + 1).toNat = i + 1 by omega])
        · rw [Int.toNat_natCast] at h26
          change ¬ (byteN s i : Int) = 32 at h26
          refine WC_skip ?_
          refine inBlockE_normal ?_
          refine thenE_normal ?_
          refine WC_region ?_
          refine WL_x (x_move (v := .int .i64 _) rfl) ?_
          refine WL_x (x_binop rfl rfl (r_add_in (i64_in (by omega) (by omega)))) ?_
          refine WL_x (x_assign (v := .int .i64 _) rfl) ?_
          refine WL_nil ?_
          refine thenE_normal ?_
          refine ⟨i + 1, ⟨by omega, fun j hj => ?_, rfl, rfl, H⟩, by omega⟩
          rcases Nat.lt_or_ge j i with h | h
          · exact hno j h
          · obtain rfl : j = i := by omega
            omega
      · exfalso
        have hall : ∀ j, j < s.size → byteN s j ≠ 32 := fun j hj => hno j (by omega)
        have : firstSp s = s.size := by
          unfold firstSp
          rw [List.find?_eq_none.2 (fun j hj => by simpa using hall j (by simpa using hj))]; rfl
        omega

theorem uOf_size {k : Nat} (h : k < 26) : (uOf k).size ≤ 1000000 := by
  have hsz := of_decide_eq_true (List.all_eq_true.1 sizes_all k (by simp; omega))
  unfold uOf
  rw [ByteArray.size_extract]
  omega
set_option maxHeartbeats 4000000 in
theorem rright_ok (W : World) (c : Cd) (hc : c.ok) (size cells pl : Int) (hsz : 0 ≤ size ∧ size ≤ 1000) (hcells : 0 ≤ cells ∧ cells ≤ 1000) : Calls Try.prog 52 #[.agg c.enc.toArray, .int .i64 size, .int .i64 cells, .int .i64 pl] W fun e w' => e = .returned (.bool (refR c size cells pl)) ∧ Fr [] W w' := by
  obtain ⟨op0, op1, a0, a1, b0, b1, c0, c1, n0, n1, m0, m1⟩ := id hc
  have H : St W [] [] [] W := St.start [] (by simp)
  refine calls_enter (N := 142) Try.func52 rfl Try.ntmps52 rfl ?_
  refine WC_seq ?_
  refine WC_region ?_
  refine WL_box (v := .agg (List.toArray _)) rfl rfl H ?_
  clear H; intro b4 w H
  refine WL_x (x_assign (v := (.bool false)) rfl) ?_
  refine WL_nil ?_
  refine thenE_normal ?_
  refine WC_seq ?_
  refine WC_region ?_
  refine WL_x (x_fieldAddr (n := 0) (o' := 0) Try.underlying81 rfl (by kernel_rfl) rfl rfl) ?_
  first | refine WL_x (x_load (v := .int .u8 _) Try.underlying5 rfl rfl (H.cellAt .zero rfl)) ?_ | refine WL_x (x_load (v := .int .u8 _) Try.underlying5 rfl rfl (H.cellAt (.succ .zero) rfl)) ?_ | refine WL_x (x_load Try.underlying5 rfl rfl (H.rnum .zero (by omega) (by omega))) ?_ | refine WL_x (x_load Try.underlying5 rfl rfl (H.rnum (.succ .zero) (by omega) (by omega))) ?_ | refine WL_x (x_load Try.underlying5 rfl rfl (H.onum .zero (by omega) (by omega))) ?_ | refine WL_x (x_load Try.underlying5 rfl rfl (H.onum (.succ .zero) (by omega) (by omega))) ?_
  refine WL_call (vs := [.int .u8 _]) Try.func60 rfl rfl rfl (parts_ok _ _ ⟨op0, op1⟩) ?_
  rintro _ w ⟨x, u, rfl, hx1, hx2, hf⟩
  refine ⟨_, rfl, ?_⟩
  replace H := H.quiet hf
  refine WL_x (x_move (v := .tuple _) rfl) ?_
  refine WL_x (x_extract (v := .string _) rfl rfl) ?_
  refine WL_x (x_extract (v := .string _) rfl rfl) ?_
  refine WL_x (x_assign (v := .string _) rfl) ?_
  refine WL_x (x_assign (v := .string _) rfl) ?_
  refine WL_nil ?_
  refine thenE_normal ?_
  refine WC_seq ?_
  refine WC_seq ?_
  refine WC_region ?_
  refine WL_x (x_move (v := .string _) rfl) ?_
  refine WL_x (x_str_eql rfl rfl) ?_
  refine WL_nil ?_
  refine thenE_normal ?_
  refine WC_if rfl (fun h19 => ?_) (fun h19 => ?_)
  · have hop : c.op > 25 := by
      rcases Int.lt_or_le 25 c.op with h | h
      · exact h
      · exact absurd (by have := eq_of_beq h19; rw [this]; exact ba_empty) (hx2 h).1
    have hR : refR c size cells pl = false := by unfold refR; rw [if_pos hop]
    refine WC_seq ?_
    refine WC_region ?_
    refine WL_x (x_assign (v := (.bool false)) rfl) ?_
    refine WL_nil ?_
    refine thenE_normal ?_
    refine WC_ret ?_
    refine thenE_ret ?_
    refine ends1 (v := .bool _) Try.results52 rfl ?_
    first
      | exact ⟨by rw [hR], H.fr⟩
      | (refine ⟨congrArg (fun b => Ending.returned (Value.bool b)) (Eq.symm ?_), H.fr⟩
         first | rw [hR1] | rw [hR0]
         clear H hR0
         clear hc op0 op1 a0 a1 b0 b1 c0 c1 n0 n1 m0 m1 hsz hcells
         first
           | (simp [rr1, *]; done)
           | (unfold rr2; simp [*]; done)
           | (unfold rr2; simp [*]; omega))
  · have hop : ¬ c.op > 25 := fun h => by
      have := hx1 h
      rw [this, ba_empty] at h19
      cases h19
    have hu : u = uOf c.op.toNat := (hx2 (by omega)).2
    have hus : u.size ≤ 1000000 := by rw [hu]; exact uOf_size (by omega)
    have hR0 : refR c size cells pl = if rr1 u c = true then false else rr2 u c size cells pl := by unfold refR; rw [if_neg hop, ← hu]
    clear hx1 hx2 hu hop h19
    refine WC_skip ?_
    refine thenE_normal ?_
    refine WC_cut (fun (_ : Unit) f w' => rr1 u c = false ∧ f 10 = .string u ∧ f 4 = .pointer (some ⟨b4, 0, none⟩) ∧ f 1 = .int .i64 size ∧ f 2 = .int .i64 cells ∧ f 3 = .int .i64 pl ∧ St W [] [blk b4 c.enc 81] [] w') ?_ ?_
    · refine WC_seq ?_
      refine WC_region ?_
      refine WL_x (x_fieldAddr (n := 0) (o' := 1) Try.underlying81 rfl (by kernel_rfl) rfl rfl) ?_
      first | refine WL_x (x_load (v := .int .u8 _) Try.underlying5 rfl rfl (H.cellAt .zero rfl)) ?_ | refine WL_x (x_load (v := .int .u8 _) Try.underlying5 rfl rfl (H.cellAt (.succ .zero) rfl)) ?_ | refine WL_x (x_load Try.underlying5 rfl rfl (H.rnum .zero (by omega) (by omega))) ?_ | refine WL_x (x_load Try.underlying5 rfl rfl (H.rnum (.succ .zero) (by omega) (by omega))) ?_ | refine WL_x (x_load Try.underlying5 rfl rfl (H.onum .zero (by omega) (by omega))) ?_ | refine WL_x (x_load Try.underlying5 rfl rfl (H.onum (.succ .zero) (by omega) (by omega))) ?_
      refine WL_x (x_binop rfl rfl (r_gtr _ _ _ _)) ?_
      refine WL_x (x_move (v := .bool _) rfl) ?_
      first | refine WL_cased (t := 23) rfl (fun h23 => ?_) (fun h23 => ?_) | refine WL_casen (t := 23) rfl (fun h23 => ?_) (fun h23 => ?_) | refine WL_case (t := 23) rfl (fun h23 => ?_) (fun h23 => ?_)
      · refine WL_guard_yes rfl rfl rfl ?_
        refine WL_x (x_move (v := .string _) rfl) ?_
        refine WL_guard_yes rfl rfl rfl ?_
        refine WL_call (vs := [.string _, (.int .u8 65)]) Try.func61 rfl rfl rfl (has_ok _ u 65 hus) ?_
        rintro _ w ⟨rfl, hf⟩
        refine ⟨_, rfl, ?_⟩
        replace H := H.quiet hf
        refine WL_guard_yes rfl rfl rfl ?_
        refine WL_x (x_not rfl) ?_
        refine WL_guard_yes rfl rfl rfl ?_
        refine WL_x (x_move (v := .bool _) rfl) ?_
        first | refine WL_cased (t := 27) rfl (fun h27 => ?_) (fun h27 => ?_) | refine WL_casen (t := 27) rfl (fun h27 => ?_) (fun h27 => ?_) | refine WL_case (t := 27) rfl (fun h27 => ?_) (fun h27 => ?_)
        · refine WL_guard_no rfl rfl rfl ?_
          refine WL_guard_no rfl rfl rfl ?_
          refine WL_guard_no rfl rfl rfl ?_
          refine WL_guard_yes rfl rfl rfl ?_
          refine WL_x (x_pick (v := .bool _) rfl rfl) ?_
          refine WL_x (x_pick (v := .bool _) rfl rfl) ?_
          refine WL_x (x_move (v := .bool _) rfl) ?_
          refine WL_guard_no rfl rfl rfl ?_
          refine WL_guard_no rfl rfl rfl ?_
          refine WL_guard_no rfl rfl rfl ?_
          refine WL_guard_no rfl rfl rfl ?_
          refine WL_guard_u rfl rfl rfl ?_
          refine WL_guard_u rfl rfl rfl ?_
          refine WL_guard_u rfl rfl rfl ?_
          refine WL_guard_u rfl rfl rfl ?_
          refine WL_guard_u rfl rfl rfl ?_
          refine WL_guard_u rfl rfl rfl ?_
          refine WL_guard_u rfl rfl rfl ?_
          refine WL_guard_u rfl rfl rfl ?_
          refine WL_guard_no rfl rfl rfl ?_
          refine WL_x (x_pick (v := .bool _) rfl rfl) ?_
          refine WL_x (x_move (v := .bool _) rfl) ?_
          refine WL_guard_no rfl rfl rfl ?_
          refine WL_guard_no rfl rfl rfl ?_
          refine WL_guard_no rfl rfl rfl ?_
          refine WL_guard_no rfl rfl rfl ?_
          refine WL_guard_u rfl rfl rfl ?_
          refine WL_guard_u rfl rfl rfl ?_
          refine WL_guard_u rfl rfl rfl ?_
          refine WL_guard_no rfl rfl rfl ?_
          refine WL_x (x_pick (v := .bool _) rfl rfl) ?_
          refine WL_nil ?_
          refine thenE_normal ?_
          refine WC_yes rfl ?_
          refine WC_seq ?_
          refine WC_region ?_
          refine WL_x (x_assign (v := (.bool false)) rfl) ?_
          refine WL_nil ?_
          refine thenE_normal ?_
          refine WC_ret ?_
          refine thenE_ret ?_
          refine ends1 (v := .bool _) Try.results52 rfl ?_
          first
            | exact ⟨by rw [hR], H.fr⟩
            | (refine ⟨congrArg (fun b => Ending.returned (Value.bool b)) (Eq.symm ?_), H.fr⟩
               first | rw [hR1] | rw [hR0]
               clear H hR0
               clear hc op0 op1 a0 a1 b0 b1 c0 c1 n0 n1 m0 m1 hsz hcells
               first
                 | (simp [rr1, *]; done)
                 | (unfold rr2; simp [*]; done)
                 | (unfold rr2; simp [*]; omega))
        · refine WL_guard_yes rfl rfl rfl ?_
          refine WL_x (x_fieldAddr (n := 0) (o' := 1) Try.underlying81 rfl (by kernel_rfl) rfl rfl) ?_
          refine WL_guard_yes rfl rfl rfl ?_
          first | refine WL_x (x_load (v := .int .u8 _) Try.underlying5 rfl rfl (H.cellAt .zero rfl)) ?_ | refine WL_x (x_load (v := .int .u8 _) Try.underlying5 rfl rfl (H.cellAt (.succ .zero) rfl)) ?_ | refine WL_x (x_load Try.underlying5 rfl rfl (H.rnum .zero (by omega) (by omega))) ?_ | refine WL_x (x_load Try.underlying5 rfl rfl (H.rnum (.succ .zero) (by omega) (by omega))) ?_ | refine WL_x (x_load Try.underlying5 rfl rfl (H.onum .zero (by omega) (by omega))) ?_ | refine WL_x (x_load Try.underlying5 rfl rfl (H.onum (.succ .zero) (by omega) (by omega))) ?_
          refine WL_guard_yes rfl rfl rfl ?_
          refine WL_x (x_binop rfl rfl (r_gtr _ _ _ _)) ?_
          refine WL_guard_yes rfl rfl rfl ?_
          refine WL_x (x_pick (v := .bool _) rfl rfl) ?_
          refine WL_x (x_pick (v := .bool _) rfl rfl) ?_
          refine WL_x (x_move (v := .bool _) rfl) ?_
          first | refine WL_cased (t := 33) rfl (fun h33 => ?_) (fun h33 => ?_) | refine WL_casen (t := 33) rfl (fun h33 => ?_) (fun h33 => ?_) | refine WL_case (t := 33) rfl (fun h33 => ?_) (fun h33 => ?_)
          · refine WL_guard_no rfl rfl rfl ?_
            refine WL_guard_no rfl rfl rfl ?_
            refine WL_guard_no rfl rfl rfl ?_
            refine WL_guard_no rfl rfl rfl ?_
            refine WL_guard_u rfl rfl rfl ?_
            refine WL_guard_u rfl rfl rfl ?_
            refine WL_guard_u rfl rfl rfl ?_
            refine WL_guard_u rfl rfl rfl ?_
            refine WL_guard_u rfl rfl rfl ?_
            refine WL_guard_u rfl rfl rfl ?_
            refine WL_guard_u rfl rfl rfl ?_
            refine WL_guard_u rfl rfl rfl ?_
            refine WL_guard_no rfl rfl rfl ?_
            refine WL_x (x_pick (v := .bool _) rfl rfl) ?_
            refine WL_x (x_move (v := .bool _) rfl) ?_
            refine WL_guard_no rfl rfl rfl ?_
            refine WL_guard_no rfl rfl rfl ?_
            refine WL_guard_no rfl rfl rfl ?_
            refine WL_guard_no rfl rfl rfl ?_
            refine WL_guard_u rfl rfl rfl ?_
            refine WL_guard_u rfl rfl rfl ?_
            refine WL_guard_u rfl rfl rfl ?_
            refine WL_guard_no rfl rfl rfl ?_
            refine WL_x (x_pick (v := .bool _) rfl rfl) ?_
            refine WL_nil ?_
            refine thenE_normal ?_
            refine WC_yes rfl ?_
            refine WC_seq ?_
            refine WC_region ?_
            refine WL_x (x_assign (v := (.bool false)) rfl) ?_
            refine WL_nil ?_
            refine thenE_normal ?_
            refine WC_ret ?_
            refine thenE_ret ?_
            refine ends1 (v := .bool _) Try.results52 rfl ?_
            first
              | exact ⟨by rw [hR], H.fr⟩
              | (refine ⟨congrArg (fun b => Ending.returned (Value.bool b)) (Eq.symm ?_), H.fr⟩
                 first | rw [hR1] | rw [hR0]
                 clear H hR0
                 clear hc op0 op1 a0 a1 b0 b1 c0 c1 n0 n1 m0 m1 hsz hcells
                 first
                   | (simp [rr1, *]; done)
                   | (unfold rr2; simp [*]; done)
                   | (unfold rr2; simp [*]; omega))
          · refine WL_guard_yes rfl rfl rfl ?_
            refine WL_x (x_fieldAddr (n := 0) (o' := 2) Try.underlying81 rfl (by kernel_rfl) rfl rfl) ?_
            refine WL_guard_yes rfl rfl rfl ?_
            first | refine WL_x (x_load (v := .int .u8 _) Try.underlying5 rfl rfl (H.cellAt .zero rfl)) ?_ | refine WL_x (x_load (v := .int .u8 _) Try.underlying5 rfl rfl (H.cellAt (.succ .zero) rfl)) ?_ | refine WL_x (x_load Try.underlying5 rfl rfl (H.rnum .zero (by omega) (by omega))) ?_ | refine WL_x (x_load Try.underlying5 rfl rfl (H.rnum (.succ .zero) (by omega) (by omega))) ?_ | refine WL_x (x_load Try.underlying5 rfl rfl (H.onum .zero (by omega) (by omega))) ?_ | refine WL_x (x_load Try.underlying5 rfl rfl (H.onum (.succ .zero) (by omega) (by omega))) ?_
            refine WL_guard_yes rfl rfl rfl ?_
            refine WL_x (x_binop rfl rfl (r_gtr _ _ _ _)) ?_
            refine WL_guard_yes rfl rfl rfl ?_
            refine WL_x (x_move (v := .bool _) rfl) ?_
            first | refine WL_cased (t := 37) rfl (fun h37 => ?_) (fun h37 => ?_) | refine WL_casen (t := 37) rfl (fun h37 => ?_) (fun h37 => ?_) | refine WL_case (t := 37) rfl (fun h37 => ?_) (fun h37 => ?_)
            · refine WL_guard_yes rfl rfl rfl ?_
              refine WL_x (x_move (v := .string _) rfl) ?_
              refine WL_guard_yes rfl rfl rfl ?_
              refine WL_call (vs := [.string _, (.int .u8 66)]) Try.func61 rfl rfl rfl (has_ok _ u 66 hus) ?_
              rintro _ w ⟨rfl, hf⟩
              refine ⟨_, rfl, ?_⟩
              replace H := H.quiet hf
              refine WL_guard_yes rfl rfl rfl ?_
              refine WL_x (x_not rfl) ?_
              refine WL_guard_yes rfl rfl rfl ?_
              refine WL_x (x_move (v := .bool _) rfl) ?_
              first | refine WL_cased (t := 41) rfl (fun h41 => ?_) (fun h41 => ?_) | refine WL_casen (t := 41) rfl (fun h41 => ?_) (fun h41 => ?_) | refine WL_case (t := 41) rfl (fun h41 => ?_) (fun h41 => ?_)
              · refine WL_guard_no rfl rfl rfl ?_
                refine WL_guard_no rfl rfl rfl ?_
                refine WL_guard_no rfl rfl rfl ?_
                refine WL_guard_yes rfl rfl rfl ?_
                refine WL_x (x_pick (v := .bool _) rfl rfl) ?_
                refine WL_guard_yes rfl rfl rfl ?_
                refine WL_x (x_pick (v := .bool _) rfl rfl) ?_
                refine WL_x (x_pick (v := .bool _) rfl rfl) ?_
                refine WL_x (x_move (v := .bool _) rfl) ?_
                refine WL_guard_no rfl rfl rfl ?_
                refine WL_guard_no rfl rfl rfl ?_
                refine WL_guard_no rfl rfl rfl ?_
                refine WL_guard_no rfl rfl rfl ?_
                refine WL_guard_u rfl rfl rfl ?_
                refine WL_guard_u rfl rfl rfl ?_
                refine WL_guard_u rfl rfl rfl ?_
                refine WL_guard_no rfl rfl rfl ?_
                refine WL_x (x_pick (v := .bool _) rfl rfl) ?_
                refine WL_nil ?_
                refine thenE_normal ?_
                refine WC_yes rfl ?_
                refine WC_seq ?_
                refine WC_region ?_
                refine WL_x (x_assign (v := (.bool false)) rfl) ?_
                refine WL_nil ?_
                refine thenE_normal ?_
                refine WC_ret ?_
                refine thenE_ret ?_
                refine ends1 (v := .bool _) Try.results52 rfl ?_
                first
                  | exact ⟨by rw [hR], H.fr⟩
                  | (refine ⟨congrArg (fun b => Ending.returned (Value.bool b)) (Eq.symm ?_), H.fr⟩
                     first | rw [hR1] | rw [hR0]
                     clear H hR0
                     clear hc op0 op1 a0 a1 b0 b1 c0 c1 n0 n1 m0 m1 hsz hcells
                     first
                       | (simp [rr1, *]; done)
                       | (unfold rr2; simp [*]; done)
                       | (unfold rr2; simp [*]; omega))
              · refine WL_guard_yes rfl rfl rfl ?_
                refine WL_x (x_fieldAddr (n := 0) (o' := 2) Try.underlying81 rfl (by kernel_rfl) rfl rfl) ?_
                refine WL_guard_yes rfl rfl rfl ?_
                first | refine WL_x (x_load (v := .int .u8 _) Try.underlying5 rfl rfl (H.cellAt .zero rfl)) ?_ | refine WL_x (x_load (v := .int .u8 _) Try.underlying5 rfl rfl (H.cellAt (.succ .zero) rfl)) ?_ | refine WL_x (x_load Try.underlying5 rfl rfl (H.rnum .zero (by omega) (by omega))) ?_ | refine WL_x (x_load Try.underlying5 rfl rfl (H.rnum (.succ .zero) (by omega) (by omega))) ?_ | refine WL_x (x_load Try.underlying5 rfl rfl (H.onum .zero (by omega) (by omega))) ?_ | refine WL_x (x_load Try.underlying5 rfl rfl (H.onum (.succ .zero) (by omega) (by omega))) ?_
                refine WL_guard_yes rfl rfl rfl ?_
                refine WL_x (x_binop rfl rfl (r_gtr _ _ _ _)) ?_
                refine WL_guard_yes rfl rfl rfl ?_
                refine WL_x (x_pick (v := .bool _) rfl rfl) ?_
                refine WL_guard_yes rfl rfl rfl ?_
                refine WL_x (x_pick (v := .bool _) rfl rfl) ?_
                refine WL_x (x_pick (v := .bool _) rfl rfl) ?_
                refine WL_x (x_move (v := .bool _) rfl) ?_
                first | refine WL_cased (t := 48) rfl (fun h48 => ?_) (fun h48 => ?_) | refine WL_casen (t := 48) rfl (fun h48 => ?_) (fun h48 => ?_) | refine WL_case (t := 48) rfl (fun h48 => ?_) (fun h48 => ?_)
                · refine WL_guard_no rfl rfl rfl ?_
                  refine WL_guard_no rfl rfl rfl ?_
                  refine WL_guard_no rfl rfl rfl ?_
                  refine WL_guard_no rfl rfl rfl ?_
                  refine WL_guard_u rfl rfl rfl ?_
                  refine WL_guard_u rfl rfl rfl ?_
                  refine WL_guard_u rfl rfl rfl ?_
                  refine WL_guard_no rfl rfl rfl ?_
                  refine WL_x (x_pick (v := .bool _) rfl rfl) ?_
                  refine WL_nil ?_
                  refine thenE_normal ?_
                  refine WC_yes rfl ?_
                  refine WC_seq ?_
                  refine WC_region ?_
                  refine WL_x (x_assign (v := (.bool false)) rfl) ?_
                  refine WL_nil ?_
                  refine thenE_normal ?_
                  refine WC_ret ?_
                  refine thenE_ret ?_
                  refine ends1 (v := .bool _) Try.results52 rfl ?_
                  first
                    | exact ⟨by rw [hR], H.fr⟩
                    | (refine ⟨congrArg (fun b => Ending.returned (Value.bool b)) (Eq.symm ?_), H.fr⟩
                       first | rw [hR1] | rw [hR0]
                       clear H hR0
                       clear hc op0 op1 a0 a1 b0 b1 c0 c1 n0 n1 m0 m1 hsz hcells
                       first
                         | (simp [rr1, *]; done)
                         | (unfold rr2; simp [*]; done)
                         | (unfold rr2; simp [*]; omega))
                · refine WL_guard_yes rfl rfl rfl ?_
                  refine WL_x (x_fieldAddr (n := 0) (o' := 5) Try.underlying81 rfl (by kernel_rfl) rfl rfl) ?_
                  refine WL_guard_yes rfl rfl rfl ?_
                  first | refine WL_x (x_load (v := .int .u32 _) Try.underlying22 rfl rfl (H.cellAt .zero rfl)) ?_ | refine WL_x (x_load (v := .int .u32 _) Try.underlying22 rfl rfl (H.cellAt (.succ .zero) rfl)) ?_ | refine WL_x (x_load Try.underlying22 rfl rfl (H.rnum .zero (by omega) (by omega))) ?_ | refine WL_x (x_load Try.underlying22 rfl rfl (H.rnum (.succ .zero) (by omega) (by omega))) ?_ | refine WL_x (x_load Try.underlying22 rfl rfl (H.onum .zero (by omega) (by omega))) ?_ | refine WL_x (x_load Try.underlying22 rfl rfl (H.onum (.succ .zero) (by omega) (by omega))) ?_
                  refine WL_guard_yes rfl rfl rfl ?_
                  refine WL_x (x_binop rfl rfl (r_gtr _ _ _ _)) ?_
                  refine WL_guard_yes rfl rfl rfl ?_
                  refine WL_x (x_move (v := .bool _) rfl) ?_
                  first | refine WL_cased (t := 52) rfl (fun h52 => ?_) (fun h52 => ?_) | refine WL_casen (t := 52) rfl (fun h52 => ?_) (fun h52 => ?_) | refine WL_case (t := 52) rfl (fun h52 => ?_) (fun h52 => ?_)
                  · refine WL_guard_yes rfl rfl rfl ?_
                    refine WL_x (x_move (v := .string _) rfl) ?_
                    refine WL_guard_yes rfl rfl rfl ?_
                    refine WL_call (vs := [.string _, (.int .u8 75)]) Try.func61 rfl rfl rfl (has_ok _ u 75 hus) ?_
                    rintro _ w ⟨rfl, hf⟩
                    refine ⟨_, rfl, ?_⟩
                    replace H := H.quiet hf
                    refine WL_guard_yes rfl rfl rfl ?_
                    refine WL_x (x_not rfl) ?_
                    refine WL_guard_yes rfl rfl rfl ?_
                    refine WL_x (x_pick (v := .bool _) rfl rfl) ?_
                    refine WL_x (x_pick (v := .bool _) rfl rfl) ?_
                    refine WL_nil ?_
                    refine thenE_normal ?_
                    refine WC_if rfl (fun h57 => ?_) (fun h57 => ?_)
                    · refine WC_seq ?_
                      refine WC_region ?_
                      refine WL_x (x_assign (v := (.bool false)) rfl) ?_
                      refine WL_nil ?_
                      refine thenE_normal ?_
                      refine WC_ret ?_
                      refine thenE_ret ?_
                      refine ends1 (v := .bool _) Try.results52 rfl ?_
                      first
                        | exact ⟨by rw [hR], H.fr⟩
                        | (refine ⟨congrArg (fun b => Ending.returned (Value.bool b)) (Eq.symm ?_), H.fr⟩
                           first | rw [hR1] | rw [hR0]
                           clear H hR0
                           clear hc op0 op1 a0 a1 b0 b1 c0 c1 n0 n1 m0 m1 hsz hcells
                           first
                             | (simp [rr1, *]; done)
                             | (unfold rr2; simp [*]; done)
                             | (unfold rr2; simp [*]; omega))
                    · refine WC_skip ?_
                      refine thenE_normal ?_
                      exact ⟨(), by clear H hR0; clear hc op0 op1 a0 a1 b0 b1 c0 c1 n0 n1 m0 m1 hsz hcells; simp [rr1, *], rfl, rfl, rfl, rfl, rfl, H⟩
                  · refine WL_guard_no rfl rfl rfl ?_
                    refine WL_guard_no rfl rfl rfl ?_
                    refine WL_guard_no rfl rfl rfl ?_
                    refine WL_guard_yes rfl rfl rfl ?_
                    refine WL_x (x_pick (v := .bool _) rfl rfl) ?_
                    refine WL_x (x_pick (v := .bool _) rfl rfl) ?_
                    refine WL_nil ?_
                    refine thenE_normal ?_
                    refine WC_no rfl ?_
                    refine WC_skip ?_
                    refine thenE_normal ?_
                    exact ⟨(), by clear H hR0; clear hc op0 op1 a0 a1 b0 b1 c0 c1 n0 n1 m0 m1 hsz hcells; simp [rr1, *], rfl, rfl, rfl, rfl, rfl, H⟩
            · refine WL_guard_no rfl rfl rfl ?_
              refine WL_guard_no rfl rfl rfl ?_
              refine WL_guard_no rfl rfl rfl ?_
              refine WL_guard_no rfl rfl rfl ?_
              refine WL_guard_u rfl rfl rfl ?_
              refine WL_guard_u rfl rfl rfl ?_
              refine WL_guard_u rfl rfl rfl ?_
              refine WL_guard_no rfl rfl rfl ?_
              refine WL_guard_yes rfl rfl rfl ?_
              refine WL_x (x_pick (v := .bool _) rfl rfl) ?_
              refine WL_x (x_pick (v := .bool _) rfl rfl) ?_
              refine WL_x (x_move (v := .bool _) rfl) ?_
              refine WL_guard_yes rfl rfl rfl ?_
              refine WL_x (x_fieldAddr (n := 0) (o' := 5) Try.underlying81 rfl (by kernel_rfl) rfl rfl) ?_
              refine WL_guard_yes rfl rfl rfl ?_
              first | refine WL_x (x_load (v := .int .u32 _) Try.underlying22 rfl rfl (H.cellAt .zero rfl)) ?_ | refine WL_x (x_load (v := .int .u32 _) Try.underlying22 rfl rfl (H.cellAt (.succ .zero) rfl)) ?_ | refine WL_x (x_load Try.underlying22 rfl rfl (H.rnum .zero (by omega) (by omega))) ?_ | refine WL_x (x_load Try.underlying22 rfl rfl (H.rnum (.succ .zero) (by omega) (by omega))) ?_ | refine WL_x (x_load Try.underlying22 rfl rfl (H.onum .zero (by omega) (by omega))) ?_ | refine WL_x (x_load Try.underlying22 rfl rfl (H.onum (.succ .zero) (by omega) (by omega))) ?_
              refine WL_guard_yes rfl rfl rfl ?_
              refine WL_x (x_binop rfl rfl (r_gtr _ _ _ _)) ?_
              refine WL_guard_yes rfl rfl rfl ?_
              refine WL_x (x_move (v := .bool _) rfl) ?_
              first | refine WL_cased (t := 52) rfl (fun h52 => ?_) (fun h52 => ?_) | refine WL_casen (t := 52) rfl (fun h52 => ?_) (fun h52 => ?_) | refine WL_case (t := 52) rfl (fun h52 => ?_) (fun h52 => ?_)
              · refine WL_guard_yes rfl rfl rfl ?_
                refine WL_x (x_move (v := .string _) rfl) ?_
                refine WL_guard_yes rfl rfl rfl ?_
                refine WL_call (vs := [.string _, (.int .u8 75)]) Try.func61 rfl rfl rfl (has_ok _ u 75 hus) ?_
                rintro _ w ⟨rfl, hf⟩
                refine ⟨_, rfl, ?_⟩
                replace H := H.quiet hf
                refine WL_guard_yes rfl rfl rfl ?_
                refine WL_x (x_not rfl) ?_
                refine WL_guard_yes rfl rfl rfl ?_
                refine WL_x (x_pick (v := .bool _) rfl rfl) ?_
                refine WL_x (x_pick (v := .bool _) rfl rfl) ?_
                refine WL_nil ?_
                refine thenE_normal ?_
                refine WC_if rfl (fun h57 => ?_) (fun h57 => ?_)
                · refine WC_seq ?_
                  refine WC_region ?_
                  refine WL_x (x_assign (v := (.bool false)) rfl) ?_
                  refine WL_nil ?_
                  refine thenE_normal ?_
                  refine WC_ret ?_
                  refine thenE_ret ?_
                  refine ends1 (v := .bool _) Try.results52 rfl ?_
                  first
                    | exact ⟨by rw [hR], H.fr⟩
                    | (refine ⟨congrArg (fun b => Ending.returned (Value.bool b)) (Eq.symm ?_), H.fr⟩
                       first | rw [hR1] | rw [hR0]
                       clear H hR0
                       clear hc op0 op1 a0 a1 b0 b1 c0 c1 n0 n1 m0 m1 hsz hcells
                       first
                         | (simp [rr1, *]; done)
                         | (unfold rr2; simp [*]; done)
                         | (unfold rr2; simp [*]; omega))
                · refine WC_skip ?_
                  refine thenE_normal ?_
                  exact ⟨(), by clear H hR0; clear hc op0 op1 a0 a1 b0 b1 c0 c1 n0 n1 m0 m1 hsz hcells; simp [rr1, *], rfl, rfl, rfl, rfl, rfl, H⟩
              · refine WL_guard_no rfl rfl rfl ?_
                refine WL_guard_no rfl rfl rfl ?_
                refine WL_guard_no rfl rfl rfl ?_
                refine WL_guard_yes rfl rfl rfl ?_
                refine WL_x (x_pick (v := .bool _) rfl rfl) ?_
                refine WL_x (x_pick (v := .bool _) rfl rfl) ?_
                refine WL_nil ?_
                refine thenE_normal ?_
                refine WC_no rfl ?_
                refine WC_skip ?_
                refine thenE_normal ?_
                exact ⟨(), by clear H hR0; clear hc op0 op1 a0 a1 b0 b1 c0 c1 n0 n1 m0 m1 hsz hcells; simp [rr1, *], rfl, rfl, rfl, rfl, rfl, H⟩
      · refine WL_guard_no rfl rfl rfl ?_
        refine WL_guard_no rfl rfl rfl ?_
        refine WL_guard_no rfl rfl rfl ?_
        refine WL_guard_no rfl rfl rfl ?_
        refine WL_guard_u rfl rfl rfl ?_
        refine WL_guard_u rfl rfl rfl ?_
        refine WL_guard_u rfl rfl rfl ?_
        refine WL_guard_no rfl rfl rfl ?_
        refine WL_x (x_pick (v := .bool _) rfl rfl) ?_
        refine WL_x (x_move (v := .bool _) rfl) ?_
        refine WL_guard_yes rfl rfl rfl ?_
        refine WL_x (x_fieldAddr (n := 0) (o' := 2) Try.underlying81 rfl (by kernel_rfl) rfl rfl) ?_
        refine WL_guard_yes rfl rfl rfl ?_
        first | refine WL_x (x_load (v := .int .u8 _) Try.underlying5 rfl rfl (H.cellAt .zero rfl)) ?_ | refine WL_x (x_load (v := .int .u8 _) Try.underlying5 rfl rfl (H.cellAt (.succ .zero) rfl)) ?_ | refine WL_x (x_load Try.underlying5 rfl rfl (H.rnum .zero (by omega) (by omega))) ?_ | refine WL_x (x_load Try.underlying5 rfl rfl (H.rnum (.succ .zero) (by omega) (by omega))) ?_ | refine WL_x (x_load Try.underlying5 rfl rfl (H.onum .zero (by omega) (by omega))) ?_ | refine WL_x (x_load Try.underlying5 rfl rfl (H.onum (.succ .zero) (by omega) (by omega))) ?_
        refine WL_guard_yes rfl rfl rfl ?_
        refine WL_x (x_binop rfl rfl (r_gtr _ _ _ _)) ?_
        refine WL_guard_yes rfl rfl rfl ?_
        refine WL_x (x_move (v := .bool _) rfl) ?_
        first | refine WL_cased (t := 37) rfl (fun h37 => ?_) (fun h37 => ?_) | refine WL_casen (t := 37) rfl (fun h37 => ?_) (fun h37 => ?_) | refine WL_case (t := 37) rfl (fun h37 => ?_) (fun h37 => ?_)
        · refine WL_guard_yes rfl rfl rfl ?_
          refine WL_x (x_move (v := .string _) rfl) ?_
          refine WL_guard_yes rfl rfl rfl ?_
          refine WL_call (vs := [.string _, (.int .u8 66)]) Try.func61 rfl rfl rfl (has_ok _ u 66 hus) ?_
          rintro _ w ⟨rfl, hf⟩
          refine ⟨_, rfl, ?_⟩
          replace H := H.quiet hf
          refine WL_guard_yes rfl rfl rfl ?_
          refine WL_x (x_not rfl) ?_
          refine WL_guard_yes rfl rfl rfl ?_
          refine WL_x (x_move (v := .bool _) rfl) ?_
          first | refine WL_cased (t := 41) rfl (fun h41 => ?_) (fun h41 => ?_) | refine WL_casen (t := 41) rfl (fun h41 => ?_) (fun h41 => ?_) | refine WL_case (t := 41) rfl (fun h41 => ?_) (fun h41 => ?_)
          · refine WL_guard_no rfl rfl rfl ?_
            refine WL_guard_no rfl rfl rfl ?_
            refine WL_guard_no rfl rfl rfl ?_
            refine WL_guard_yes rfl rfl rfl ?_
            refine WL_x (x_pick (v := .bool _) rfl rfl) ?_
            refine WL_guard_yes rfl rfl rfl ?_
            refine WL_x (x_pick (v := .bool _) rfl rfl) ?_
            refine WL_x (x_pick (v := .bool _) rfl rfl) ?_
            refine WL_x (x_move (v := .bool _) rfl) ?_
            refine WL_guard_no rfl rfl rfl ?_
            refine WL_guard_no rfl rfl rfl ?_
            refine WL_guard_no rfl rfl rfl ?_
            refine WL_guard_no rfl rfl rfl ?_
            refine WL_guard_u rfl rfl rfl ?_
            refine WL_guard_u rfl rfl rfl ?_
            refine WL_guard_u rfl rfl rfl ?_
            refine WL_guard_no rfl rfl rfl ?_
            refine WL_x (x_pick (v := .bool _) rfl rfl) ?_
            refine WL_nil ?_
            refine thenE_normal ?_
            refine WC_yes rfl ?_
            refine WC_seq ?_
            refine WC_region ?_
            refine WL_x (x_assign (v := (.bool false)) rfl) ?_
            refine WL_nil ?_
            refine thenE_normal ?_
            refine WC_ret ?_
            refine thenE_ret ?_
            refine ends1 (v := .bool _) Try.results52 rfl ?_
            first
              | exact ⟨by rw [hR], H.fr⟩
              | (refine ⟨congrArg (fun b => Ending.returned (Value.bool b)) (Eq.symm ?_), H.fr⟩
                 first | rw [hR1] | rw [hR0]
                 clear H hR0
                 clear hc op0 op1 a0 a1 b0 b1 c0 c1 n0 n1 m0 m1 hsz hcells
                 first
                   | (simp [rr1, *]; done)
                   | (unfold rr2; simp [*]; done)
                   | (unfold rr2; simp [*]; omega))
          · refine WL_guard_yes rfl rfl rfl ?_
            refine WL_x (x_fieldAddr (n := 0) (o' := 2) Try.underlying81 rfl (by kernel_rfl) rfl rfl) ?_
            refine WL_guard_yes rfl rfl rfl ?_
            first | refine WL_x (x_load (v := .int .u8 _) Try.underlying5 rfl rfl (H.cellAt .zero rfl)) ?_ | refine WL_x (x_load (v := .int .u8 _) Try.underlying5 rfl rfl (H.cellAt (.succ .zero) rfl)) ?_ | refine WL_x (x_load Try.underlying5 rfl rfl (H.rnum .zero (by omega) (by omega))) ?_ | refine WL_x (x_load Try.underlying5 rfl rfl (H.rnum (.succ .zero) (by omega) (by omega))) ?_ | refine WL_x (x_load Try.underlying5 rfl rfl (H.onum .zero (by omega) (by omega))) ?_ | refine WL_x (x_load Try.underlying5 rfl rfl (H.onum (.succ .zero) (by omega) (by omega))) ?_
            refine WL_guard_yes rfl rfl rfl ?_
            refine WL_x (x_binop rfl rfl (r_gtr _ _ _ _)) ?_
            refine WL_guard_yes rfl rfl rfl ?_
            refine WL_x (x_pick (v := .bool _) rfl rfl) ?_
            refine WL_guard_yes rfl rfl rfl ?_
            refine WL_x (x_pick (v := .bool _) rfl rfl) ?_
            refine WL_x (x_pick (v := .bool _) rfl rfl) ?_
            refine WL_x (x_move (v := .bool _) rfl) ?_
            first | refine WL_cased (t := 48) rfl (fun h48 => ?_) (fun h48 => ?_) | refine WL_casen (t := 48) rfl (fun h48 => ?_) (fun h48 => ?_) | refine WL_case (t := 48) rfl (fun h48 => ?_) (fun h48 => ?_)
            · refine WL_guard_no rfl rfl rfl ?_
              refine WL_guard_no rfl rfl rfl ?_
              refine WL_guard_no rfl rfl rfl ?_
              refine WL_guard_no rfl rfl rfl ?_
              refine WL_guard_u rfl rfl rfl ?_
              refine WL_guard_u rfl rfl rfl ?_
              refine WL_guard_u rfl rfl rfl ?_
              refine WL_guard_no rfl rfl rfl ?_
              refine WL_x (x_pick (v := .bool _) rfl rfl) ?_
              refine WL_nil ?_
              refine thenE_normal ?_
              refine WC_yes rfl ?_
              refine WC_seq ?_
              refine WC_region ?_
              refine WL_x (x_assign (v := (.bool false)) rfl) ?_
              refine WL_nil ?_
              refine thenE_normal ?_
              refine WC_ret ?_
              refine thenE_ret ?_
              refine ends1 (v := .bool _) Try.results52 rfl ?_
              first
                | exact ⟨by rw [hR], H.fr⟩
                | (refine ⟨congrArg (fun b => Ending.returned (Value.bool b)) (Eq.symm ?_), H.fr⟩
                   first | rw [hR1] | rw [hR0]
                   clear H hR0
                   clear hc op0 op1 a0 a1 b0 b1 c0 c1 n0 n1 m0 m1 hsz hcells
                   first
                     | (simp [rr1, *]; done)
                     | (unfold rr2; simp [*]; done)
                     | (unfold rr2; simp [*]; omega))
            · refine WL_guard_yes rfl rfl rfl ?_
              refine WL_x (x_fieldAddr (n := 0) (o' := 5) Try.underlying81 rfl (by kernel_rfl) rfl rfl) ?_
              refine WL_guard_yes rfl rfl rfl ?_
              first | refine WL_x (x_load (v := .int .u32 _) Try.underlying22 rfl rfl (H.cellAt .zero rfl)) ?_ | refine WL_x (x_load (v := .int .u32 _) Try.underlying22 rfl rfl (H.cellAt (.succ .zero) rfl)) ?_ | refine WL_x (x_load Try.underlying22 rfl rfl (H.rnum .zero (by omega) (by omega))) ?_ | refine WL_x (x_load Try.underlying22 rfl rfl (H.rnum (.succ .zero) (by omega) (by omega))) ?_ | refine WL_x (x_load Try.underlying22 rfl rfl (H.onum .zero (by omega) (by omega))) ?_ | refine WL_x (x_load Try.underlying22 rfl rfl (H.onum (.succ .zero) (by omega) (by omega))) ?_
              refine WL_guard_yes rfl rfl rfl ?_
              refine WL_x (x_binop rfl rfl (r_gtr _ _ _ _)) ?_
              refine WL_guard_yes rfl rfl rfl ?_
              refine WL_x (x_move (v := .bool _) rfl) ?_
              first | refine WL_cased (t := 52) rfl (fun h52 => ?_) (fun h52 => ?_) | refine WL_casen (t := 52) rfl (fun h52 => ?_) (fun h52 => ?_) | refine WL_case (t := 52) rfl (fun h52 => ?_) (fun h52 => ?_)
              · refine WL_guard_yes rfl rfl rfl ?_
                refine WL_x (x_move (v := .string _) rfl) ?_
                refine WL_guard_yes rfl rfl rfl ?_
                refine WL_call (vs := [.string _, (.int .u8 75)]) Try.func61 rfl rfl rfl (has_ok _ u 75 hus) ?_
                rintro _ w ⟨rfl, hf⟩
                refine ⟨_, rfl, ?_⟩
                replace H := H.quiet hf
                refine WL_guard_yes rfl rfl rfl ?_
                refine WL_x (x_not rfl) ?_
                refine WL_guard_yes rfl rfl rfl ?_
                refine WL_x (x_pick (v := .bool _) rfl rfl) ?_
                refine WL_x (x_pick (v := .bool _) rfl rfl) ?_
                refine WL_nil ?_
                refine thenE_normal ?_
                refine WC_if rfl (fun h57 => ?_) (fun h57 => ?_)
                · refine WC_seq ?_
                  refine WC_region ?_
                  refine WL_x (x_assign (v := (.bool false)) rfl) ?_
                  refine WL_nil ?_
                  refine thenE_normal ?_
                  refine WC_ret ?_
                  refine thenE_ret ?_
                  refine ends1 (v := .bool _) Try.results52 rfl ?_
                  first
                    | exact ⟨by rw [hR], H.fr⟩
                    | (refine ⟨congrArg (fun b => Ending.returned (Value.bool b)) (Eq.symm ?_), H.fr⟩
                       first | rw [hR1] | rw [hR0]
                       clear H hR0
                       clear hc op0 op1 a0 a1 b0 b1 c0 c1 n0 n1 m0 m1 hsz hcells
                       first
                         | (simp [rr1, *]; done)
                         | (unfold rr2; simp [*]; done)
                         | (unfold rr2; simp [*]; omega))
                · refine WC_skip ?_
                  refine thenE_normal ?_
                  exact ⟨(), by clear H hR0; clear hc op0 op1 a0 a1 b0 b1 c0 c1 n0 n1 m0 m1 hsz hcells; simp [rr1, *], rfl, rfl, rfl, rfl, rfl, H⟩
              · refine WL_guard_no rfl rfl rfl ?_
                refine WL_guard_no rfl rfl rfl ?_
                refine WL_guard_no rfl rfl rfl ?_
                refine WL_guard_yes rfl rfl rfl ?_
                refine WL_x (x_pick (v := .bool _) rfl rfl) ?_
                refine WL_x (x_pick (v := .bool _) rfl rfl) ?_
                refine WL_nil ?_
                refine thenE_normal ?_
                refine WC_no rfl ?_
                refine WC_skip ?_
                refine thenE_normal ?_
                exact ⟨(), by clear H hR0; clear hc op0 op1 a0 a1 b0 b1 c0 c1 n0 n1 m0 m1 hsz hcells; simp [rr1, *], rfl, rfl, rfl, rfl, rfl, H⟩
        · refine WL_guard_no rfl rfl rfl ?_
          refine WL_guard_no rfl rfl rfl ?_
          refine WL_guard_no rfl rfl rfl ?_
          refine WL_guard_no rfl rfl rfl ?_
          refine WL_guard_u rfl rfl rfl ?_
          refine WL_guard_u rfl rfl rfl ?_
          refine WL_guard_u rfl rfl rfl ?_
          refine WL_guard_no rfl rfl rfl ?_
          refine WL_guard_yes rfl rfl rfl ?_
          refine WL_x (x_pick (v := .bool _) rfl rfl) ?_
          refine WL_x (x_pick (v := .bool _) rfl rfl) ?_
          refine WL_x (x_move (v := .bool _) rfl) ?_
          refine WL_guard_yes rfl rfl rfl ?_
          refine WL_x (x_fieldAddr (n := 0) (o' := 5) Try.underlying81 rfl (by kernel_rfl) rfl rfl) ?_
          refine WL_guard_yes rfl rfl rfl ?_
          first | refine WL_x (x_load (v := .int .u32 _) Try.underlying22 rfl rfl (H.cellAt .zero rfl)) ?_ | refine WL_x (x_load (v := .int .u32 _) Try.underlying22 rfl rfl (H.cellAt (.succ .zero) rfl)) ?_ | refine WL_x (x_load Try.underlying22 rfl rfl (H.rnum .zero (by omega) (by omega))) ?_ | refine WL_x (x_load Try.underlying22 rfl rfl (H.rnum (.succ .zero) (by omega) (by omega))) ?_ | refine WL_x (x_load Try.underlying22 rfl rfl (H.onum .zero (by omega) (by omega))) ?_ | refine WL_x (x_load Try.underlying22 rfl rfl (H.onum (.succ .zero) (by omega) (by omega))) ?_
          refine WL_guard_yes rfl rfl rfl ?_
          refine WL_x (x_binop rfl rfl (r_gtr _ _ _ _)) ?_
          refine WL_guard_yes rfl rfl rfl ?_
          refine WL_x (x_move (v := .bool _) rfl) ?_
          first | refine WL_cased (t := 52) rfl (fun h52 => ?_) (fun h52 => ?_) | refine WL_casen (t := 52) rfl (fun h52 => ?_) (fun h52 => ?_) | refine WL_case (t := 52) rfl (fun h52 => ?_) (fun h52 => ?_)
          · refine WL_guard_yes rfl rfl rfl ?_
            refine WL_x (x_move (v := .string _) rfl) ?_
            refine WL_guard_yes rfl rfl rfl ?_
            refine WL_call (vs := [.string _, (.int .u8 75)]) Try.func61 rfl rfl rfl (has_ok _ u 75 hus) ?_
            rintro _ w ⟨rfl, hf⟩
            refine ⟨_, rfl, ?_⟩
            replace H := H.quiet hf
            refine WL_guard_yes rfl rfl rfl ?_
            refine WL_x (x_not rfl) ?_
            refine WL_guard_yes rfl rfl rfl ?_
            refine WL_x (x_pick (v := .bool _) rfl rfl) ?_
            refine WL_x (x_pick (v := .bool _) rfl rfl) ?_
            refine WL_nil ?_
            refine thenE_normal ?_
            refine WC_if rfl (fun h57 => ?_) (fun h57 => ?_)
            · refine WC_seq ?_
              refine WC_region ?_
              refine WL_x (x_assign (v := (.bool false)) rfl) ?_
              refine WL_nil ?_
              refine thenE_normal ?_
              refine WC_ret ?_
              refine thenE_ret ?_
              refine ends1 (v := .bool _) Try.results52 rfl ?_
              first
                | exact ⟨by rw [hR], H.fr⟩
                | (refine ⟨congrArg (fun b => Ending.returned (Value.bool b)) (Eq.symm ?_), H.fr⟩
                   first | rw [hR1] | rw [hR0]
                   clear H hR0
                   clear hc op0 op1 a0 a1 b0 b1 c0 c1 n0 n1 m0 m1 hsz hcells
                   first
                     | (simp [rr1, *]; done)
                     | (unfold rr2; simp [*]; done)
                     | (unfold rr2; simp [*]; omega))
            · refine WC_skip ?_
              refine thenE_normal ?_
              exact ⟨(), by clear H hR0; clear hc op0 op1 a0 a1 b0 b1 c0 c1 n0 n1 m0 m1 hsz hcells; simp [rr1, *], rfl, rfl, rfl, rfl, rfl, H⟩
          · refine WL_guard_no rfl rfl rfl ?_
            refine WL_guard_no rfl rfl rfl ?_
            refine WL_guard_no rfl rfl rfl ?_
            refine WL_guard_yes rfl rfl rfl ?_
            refine WL_x (x_pick (v := .bool _) rfl rfl) ?_
            refine WL_x (x_pick (v := .bool _) rfl rfl) ?_
            refine WL_nil ?_
            refine thenE_normal ?_
            refine WC_no rfl ?_
            refine WC_skip ?_
            refine thenE_normal ?_
            exact ⟨(), by clear H hR0; clear hc op0 op1 a0 a1 b0 b1 c0 c1 n0 n1 m0 m1 hsz hcells; simp [rr1, *], rfl, rfl, rfl, rfl, rfl, H⟩
    · clear H
      rintro _ f w ⟨hr1, h10, h4, h1, h2, h3, H⟩
      rw [← upd_self h10, ← upd_self h4, ← upd_self h1, ← upd_self h2, ← upd_self h3]
      have hR1 : refR c size cells pl = rr2 u c size cells pl := by rw [hR0, hr1]; rfl
      refine WC_seq ?_
      refine WC_region ?_
      refine WL_x (x_fieldAddr (n := 0) (o' := 4) Try.underlying81 rfl (by kernel_rfl) rfl rfl) ?_
      first | refine WL_x (x_load (v := .int .i32 _) Try.underlying21 rfl rfl (H.cellAt .zero rfl)) ?_ | refine WL_x (x_load (v := .int .i32 _) Try.underlying21 rfl rfl (H.cellAt (.succ .zero) rfl)) ?_ | refine WL_x (x_load Try.underlying21 rfl rfl (H.rnum .zero (by omega) (by omega))) ?_ | refine WL_x (x_load Try.underlying21 rfl rfl (H.rnum (.succ .zero) (by omega) (by omega))) ?_ | refine WL_x (x_load Try.underlying21 rfl rfl (H.onum .zero (by omega) (by omega))) ?_ | refine WL_x (x_load Try.underlying21 rfl rfl (H.onum (.succ .zero) (by omega) (by omega))) ?_
      refine WL_x (x_convert Try.underlying21 Try.underlying3 rfl (i64_in (by omega) (by omega))) ?_
      refine WL_x (x_assign (v := .int .i64 _) rfl) ?_
      refine WL_nil ?_
      refine thenE_normal ?_
      refine WC_seq ?_
      refine WC_seq ?_
      refine WC_region ?_
      refine WL_x (x_move (v := .string _) rfl) ?_
      refine WL_call (vs := [.string _, (.int .u8 114)]) Try.func61 rfl rfl rfl (has_ok _ u 114 hus) ?_
      rintro _ w ⟨rfl, hf⟩
      refine ⟨_, rfl, ?_⟩
      replace H := H.quiet hf
      refine WL_nil ?_
      refine thenE_normal ?_
      refine WC_if rfl (fun h62 => ?_) (fun h62 => ?_)
      · refine WC_seq ?_
        refine WC_region ?_
        refine WL_x (x_fieldAddr (n := 0) (o' := 3) Try.underlying81 rfl (by kernel_rfl) rfl rfl) ?_
        first | refine WL_x (x_load (v := .int .u8 _) Try.underlying5 rfl rfl (H.cellAt .zero rfl)) ?_ | refine WL_x (x_load (v := .int .u8 _) Try.underlying5 rfl rfl (H.cellAt (.succ .zero) rfl)) ?_ | refine WL_x (x_load Try.underlying5 rfl rfl (H.rnum .zero (by omega) (by omega))) ?_ | refine WL_x (x_load Try.underlying5 rfl rfl (H.rnum (.succ .zero) (by omega) (by omega))) ?_ | refine WL_x (x_load Try.underlying5 rfl rfl (H.onum .zero (by omega) (by omega))) ?_ | refine WL_x (x_load Try.underlying5 rfl rfl (H.onum (.succ .zero) (by omega) (by omega))) ?_
        refine WL_x (x_binop rfl rfl (r_gtr _ _ _ _)) ?_
        refine WL_x (x_move (v := .bool _) rfl) ?_
        first | refine WL_cased (t := 66) rfl (fun h66 => ?_) (fun h66 => ?_) | refine WL_casen (t := 66) rfl (fun h66 => ?_) (fun h66 => ?_) | refine WL_case (t := 66) rfl (fun h66 => ?_) (fun h66 => ?_)
        · refine WL_guard_yes rfl rfl rfl ?_
          refine WL_x (x_fieldAddr (n := 0) (o' := 3) Try.underlying81 rfl (by kernel_rfl) rfl rfl) ?_
          refine WL_guard_yes rfl rfl rfl ?_
          first | refine WL_x (x_load (v := .int .u8 _) Try.underlying5 rfl rfl (H.cellAt .zero rfl)) ?_ | refine WL_x (x_load (v := .int .u8 _) Try.underlying5 rfl rfl (H.cellAt (.succ .zero) rfl)) ?_ | refine WL_x (x_load Try.underlying5 rfl rfl (H.rnum .zero (by omega) (by omega))) ?_ | refine WL_x (x_load Try.underlying5 rfl rfl (H.rnum (.succ .zero) (by omega) (by omega))) ?_ | refine WL_x (x_load Try.underlying5 rfl rfl (H.onum .zero (by omega) (by omega))) ?_ | refine WL_x (x_load Try.underlying5 rfl rfl (H.onum (.succ .zero) (by omega) (by omega))) ?_
          refine WL_guard_yes rfl rfl rfl ?_
          refine WL_x (x_binop rfl rfl (r_lss _ _ _ _)) ?_
          refine WL_x (x_pick (v := .bool _) rfl rfl) ?_
          refine WL_x (x_move (v := .bool _) rfl) ?_
          first | refine WL_cased (t := 71) rfl (fun h71 => ?_) (fun h71 => ?_) | refine WL_casen (t := 71) rfl (fun h71 => ?_) (fun h71 => ?_) | refine WL_case (t := 71) rfl (fun h71 => ?_) (fun h71 => ?_)
          · refine WL_guard_yes rfl rfl rfl ?_
            refine WL_x (x_move (v := .int .i64 _) rfl) ?_
            refine WL_guard_yes rfl rfl rfl ?_
            refine WL_x (x_binop rfl rfl (r_geq _ _ _ _)) ?_
            refine WL_x (x_pick (v := .bool _) rfl rfl) ?_
            refine WL_x (x_move (v := .bool _) rfl) ?_
            first | refine WL_cased (t := 75) rfl (fun h75 => ?_) (fun h75 => ?_) | refine WL_casen (t := 75) rfl (fun h75 => ?_) (fun h75 => ?_) | refine WL_case (t := 75) rfl (fun h75 => ?_) (fun h75 => ?_)
            · refine WL_guard_yes rfl rfl rfl ?_
              refine WL_x (x_move (v := .int .i64 _) rfl) ?_
              refine WL_guard_yes rfl rfl rfl ?_
              refine WL_x (x_move (v := .int .i64 _) rfl) ?_
              refine WL_guard_yes rfl rfl rfl ?_
              refine WL_x (x_binop rfl rfl (r_lss _ _ _ _)) ?_
              refine WL_x (x_pick (v := .bool _) rfl rfl) ?_
              refine WL_x (x_move (v := .bool _) rfl) ?_
              first | refine WL_cased (t := 80) rfl (fun h80 => ?_) (fun h80 => ?_) | refine WL_casen (t := 80) rfl (fun h80 => ?_) (fun h80 => ?_) | refine WL_case (t := 80) rfl (fun h80 => ?_) (fun h80 => ?_)
              · refine WL_guard_yes rfl rfl rfl ?_
                refine WL_x (x_move (v := .int .i64 _) rfl) ?_
                refine WL_guard_yes rfl rfl rfl ?_
                refine WL_x (x_fieldAddr (n := 0) (o' := 3) Try.underlying81 rfl (by kernel_rfl) rfl rfl) ?_
                refine WL_guard_yes rfl rfl rfl ?_
                first | refine WL_x (x_load (v := .int .u8 _) Try.underlying5 rfl rfl (H.cellAt .zero rfl)) ?_ | refine WL_x (x_load (v := .int .u8 _) Try.underlying5 rfl rfl (H.cellAt (.succ .zero) rfl)) ?_ | refine WL_x (x_load Try.underlying5 rfl rfl (H.rnum .zero (by omega) (by omega))) ?_ | refine WL_x (x_load Try.underlying5 rfl rfl (H.rnum (.succ .zero) (by omega) (by omega))) ?_ | refine WL_x (x_load Try.underlying5 rfl rfl (H.onum .zero (by omega) (by omega))) ?_ | refine WL_x (x_load Try.underlying5 rfl rfl (H.onum (.succ .zero) (by omega) (by omega))) ?_
                refine WL_guard_yes rfl rfl rfl ?_
                refine WL_x (x_convert Try.underlying5 Try.underlying3 rfl (i64_in (by omega) (by omega))) ?_
                refine WL_guard_yes rfl rfl rfl ?_
                refine WL_x (x_binop rfl rfl (r_add_in (i64_in (by omega) (by omega)))) ?_
                refine WL_guard_yes rfl rfl rfl ?_
                refine WL_x (x_move (v := .int .i64 _) rfl) ?_
                refine WL_guard_yes rfl rfl rfl ?_
                refine WL_x (x_binop rfl rfl (r_leq _ _ _ _)) ?_
                refine WL_x (x_pick (v := .bool _) rfl rfl) ?_
                refine WL_x (x_assign (v := .bool _) rfl) ?_
                refine WL_nil ?_
                refine thenE_normal ?_
                refine WC_ret ?_
                refine thenE_ret ?_
                refine ends1 (v := .bool _) Try.results52 rfl ?_
                first
                  | exact ⟨by rw [hR], H.fr⟩
                  | (refine ⟨congrArg (fun b => Ending.returned (Value.bool b)) (Eq.symm ?_), H.fr⟩
                     first | rw [hR1] | rw [hR0]
                     clear H hR0
                     clear hc op0 op1 a0 a1 b0 b1 c0 c1 n0 n1 m0 m1 hsz hcells
                     first
                       | (simp [rr1, *]; done)
                       | (unfold rr2; simp [*]; done)
                       | (unfold rr2; simp [*]; omega))
              · refine WL_guard_no rfl rfl rfl ?_
                refine WL_guard_no rfl rfl rfl ?_
                refine WL_guard_no rfl rfl rfl ?_
                refine WL_guard_no rfl rfl rfl ?_
                refine WL_guard_no rfl rfl rfl ?_
                refine WL_guard_no rfl rfl rfl ?_
                refine WL_guard_no rfl rfl rfl ?_
                refine WL_x (x_pick (v := .bool _) rfl rfl) ?_
                refine WL_x (x_assign (v := .bool _) rfl) ?_
                refine WL_nil ?_
                refine thenE_normal ?_
                refine WC_ret ?_
                refine thenE_ret ?_
                refine ends1 (v := .bool _) Try.results52 rfl ?_
                first
                  | exact ⟨by rw [hR], H.fr⟩
                  | (refine ⟨congrArg (fun b => Ending.returned (Value.bool b)) (Eq.symm ?_), H.fr⟩
                     first | rw [hR1] | rw [hR0]
                     clear H hR0
                     clear hc op0 op1 a0 a1 b0 b1 c0 c1 n0 n1 m0 m1 hsz hcells
                     first
                       | (simp [rr1, *]; done)
                       | (unfold rr2; simp [*]; done)
                       | (unfold rr2; simp [*]; omega))
            · refine WL_guard_no rfl rfl rfl ?_
              refine WL_guard_no rfl rfl rfl ?_
              refine WL_guard_no rfl rfl rfl ?_
              refine WL_x (x_pick (v := .bool _) rfl rfl) ?_
              refine WL_x (x_move (v := .bool _) rfl) ?_
              refine WL_guard_no rfl rfl rfl ?_
              refine WL_guard_no rfl rfl rfl ?_
              refine WL_guard_no rfl rfl rfl ?_
              refine WL_guard_no rfl rfl rfl ?_
              refine WL_guard_no rfl rfl rfl ?_
              refine WL_guard_no rfl rfl rfl ?_
              refine WL_guard_no rfl rfl rfl ?_
              refine WL_x (x_pick (v := .bool _) rfl rfl) ?_
              refine WL_x (x_assign (v := .bool _) rfl) ?_
              refine WL_nil ?_
              refine thenE_normal ?_
              refine WC_ret ?_
              refine thenE_ret ?_
              refine ends1 (v := .bool _) Try.results52 rfl ?_
              first
                | exact ⟨by rw [hR], H.fr⟩
                | (refine ⟨congrArg (fun b => Ending.returned (Value.bool b)) (Eq.symm ?_), H.fr⟩
                   first | rw [hR1] | rw [hR0]
                   clear H hR0
                   clear hc op0 op1 a0 a1 b0 b1 c0 c1 n0 n1 m0 m1 hsz hcells
                   first
                     | (simp [rr1, *]; done)
                     | (unfold rr2; simp [*]; done)
                     | (unfold rr2; simp [*]; omega))
          · refine WL_guard_no rfl rfl rfl ?_
            refine WL_guard_no rfl rfl rfl ?_
            refine WL_x (x_pick (v := .bool _) rfl rfl) ?_
            refine WL_x (x_move (v := .bool _) rfl) ?_
            refine WL_guard_no rfl rfl rfl ?_
            refine WL_guard_no rfl rfl rfl ?_
            refine WL_guard_no rfl rfl rfl ?_
            refine WL_x (x_pick (v := .bool _) rfl rfl) ?_
            refine WL_x (x_move (v := .bool _) rfl) ?_
            refine WL_guard_no rfl rfl rfl ?_
            refine WL_guard_no rfl rfl rfl ?_
            refine WL_guard_no rfl rfl rfl ?_
            refine WL_guard_no rfl rfl rfl ?_
            refine WL_guard_no rfl rfl rfl ?_
            refine WL_guard_no rfl rfl rfl ?_
            refine WL_guard_no rfl rfl rfl ?_
            refine WL_x (x_pick (v := .bool _) rfl rfl) ?_
            refine WL_x (x_assign (v := .bool _) rfl) ?_
            refine WL_nil ?_
            refine thenE_normal ?_
            refine WC_ret ?_
            refine thenE_ret ?_
            refine ends1 (v := .bool _) Try.results52 rfl ?_
            first
              | exact ⟨by rw [hR], H.fr⟩
              | (refine ⟨congrArg (fun b => Ending.returned (Value.bool b)) (Eq.symm ?_), H.fr⟩
                 first | rw [hR1] | rw [hR0]
                 clear H hR0
                 clear hc op0 op1 a0 a1 b0 b1 c0 c1 n0 n1 m0 m1 hsz hcells
                 first
                   | (simp [rr1, *]; done)
                   | (unfold rr2; simp [*]; done)
                   | (unfold rr2; simp [*]; omega))
        · refine WL_guard_no rfl rfl rfl ?_
          refine WL_guard_no rfl rfl rfl ?_
          refine WL_guard_no rfl rfl rfl ?_
          refine WL_x (x_pick (v := .bool _) rfl rfl) ?_
          refine WL_x (x_move (v := .bool _) rfl) ?_
          refine WL_guard_no rfl rfl rfl ?_
          refine WL_guard_no rfl rfl rfl ?_
          refine WL_x (x_pick (v := .bool _) rfl rfl) ?_
          refine WL_x (x_move (v := .bool _) rfl) ?_
          refine WL_guard_no rfl rfl rfl ?_
          refine WL_guard_no rfl rfl rfl ?_
          refine WL_guard_no rfl rfl rfl ?_
          refine WL_x (x_pick (v := .bool _) rfl rfl) ?_
          refine WL_x (x_move (v := .bool _) rfl) ?_
          refine WL_guard_no rfl rfl rfl ?_
          refine WL_guard_no rfl rfl rfl ?_
          refine WL_guard_no rfl rfl rfl ?_
          refine WL_guard_no rfl rfl rfl ?_
          refine WL_guard_no rfl rfl rfl ?_
          refine WL_guard_no rfl rfl rfl ?_
          refine WL_guard_no rfl rfl rfl ?_
          refine WL_x (x_pick (v := .bool _) rfl rfl) ?_
          refine WL_x (x_assign (v := .bool _) rfl) ?_
          refine WL_nil ?_
          refine thenE_normal ?_
          refine WC_ret ?_
          refine thenE_ret ?_
          refine ends1 (v := .bool _) Try.results52 rfl ?_
          first
            | exact ⟨by rw [hR], H.fr⟩
            | (refine ⟨congrArg (fun b => Ending.returned (Value.bool b)) (Eq.symm ?_), H.fr⟩
               first | rw [hR1] | rw [hR0]
               clear H hR0
               clear hc op0 op1 a0 a1 b0 b1 c0 c1 n0 n1 m0 m1 hsz hcells
               first
                 | (simp [rr1, *]; done)
                 | (unfold rr2; simp [*]; done)
                 | (unfold rr2; simp [*]; omega))
      · refine WC_skip ?_
        refine thenE_normal ?_
        refine WC_cut (fun (_ : Unit) f w' => (decide (c.c > 0) && (!hasB u 67 || decide (c.c > 7))) = false ∧ f 10 = .string u ∧ f 11 = .int .i64 c.n ∧ f 1 = .int .i64 size ∧ f 2 = .int .i64 cells ∧ f 3 = .int .i64 pl ∧ St W [] [blk b4 c.enc 81] [] w') ?_ ?_
        · refine WC_seq ?_
          refine WC_region ?_
          refine WL_x (x_fieldAddr (n := 0) (o' := 3) Try.underlying81 rfl (by kernel_rfl) rfl rfl) ?_
          first | refine WL_x (x_load (v := .int .u8 _) Try.underlying5 rfl rfl (H.cellAt .zero rfl)) ?_ | refine WL_x (x_load (v := .int .u8 _) Try.underlying5 rfl rfl (H.cellAt (.succ .zero) rfl)) ?_ | refine WL_x (x_load Try.underlying5 rfl rfl (H.rnum .zero (by omega) (by omega))) ?_ | refine WL_x (x_load Try.underlying5 rfl rfl (H.rnum (.succ .zero) (by omega) (by omega))) ?_ | refine WL_x (x_load Try.underlying5 rfl rfl (H.onum .zero (by omega) (by omega))) ?_ | refine WL_x (x_load Try.underlying5 rfl rfl (H.onum (.succ .zero) (by omega) (by omega))) ?_
          refine WL_x (x_binop rfl rfl (r_gtr _ _ _ _)) ?_
          refine WL_x (x_move (v := .bool _) rfl) ?_
          first | refine WL_cased (t := 92) rfl (fun h92 => ?_) (fun h92 => ?_) | refine WL_casen (t := 92) rfl (fun h92 => ?_) (fun h92 => ?_) | refine WL_case (t := 92) rfl (fun h92 => ?_) (fun h92 => ?_)
          · refine WL_guard_yes rfl rfl rfl ?_
            refine WL_x (x_move (v := .string _) rfl) ?_
            refine WL_guard_yes rfl rfl rfl ?_
            refine WL_call (vs := [.string _, (.int .u8 67)]) Try.func61 rfl rfl rfl (has_ok _ u 67 hus) ?_
            rintro _ w ⟨rfl, hf⟩
            refine ⟨_, rfl, ?_⟩
            replace H := H.quiet hf
            refine WL_guard_yes rfl rfl rfl ?_
            refine WL_x (x_not rfl) ?_
            refine WL_guard_yes rfl rfl rfl ?_
            refine WL_x (x_move (v := .bool _) rfl) ?_
            first | refine WL_cased (t := 96) rfl (fun h96 => ?_) (fun h96 => ?_) | refine WL_casen (t := 96) rfl (fun h96 => ?_) (fun h96 => ?_) | refine WL_case (t := 96) rfl (fun h96 => ?_) (fun h96 => ?_)
            · refine WL_guard_no rfl rfl rfl ?_
              refine WL_guard_no rfl rfl rfl ?_
              refine WL_guard_no rfl rfl rfl ?_
              refine WL_guard_yes rfl rfl rfl ?_
              refine WL_x (x_pick (v := .bool _) rfl rfl) ?_
              refine WL_x (x_pick (v := .bool _) rfl rfl) ?_
              refine WL_nil ?_
              refine thenE_normal ?_
              refine WC_yes rfl ?_
              refine WC_seq ?_
              refine WC_region ?_
              refine WL_x (x_assign (v := (.bool false)) rfl) ?_
              refine WL_nil ?_
              refine thenE_normal ?_
              refine WC_ret ?_
              refine thenE_ret ?_
              refine ends1 (v := .bool _) Try.results52 rfl ?_
              first
                | exact ⟨by rw [hR], H.fr⟩
                | (refine ⟨congrArg (fun b => Ending.returned (Value.bool b)) (Eq.symm ?_), H.fr⟩
                   first | rw [hR1] | rw [hR0]
                   clear H hR0
                   clear hc op0 op1 a0 a1 b0 b1 c0 c1 n0 n1 m0 m1 hsz hcells
                   first
                     | (simp [rr1, *]; done)
                     | (unfold rr2; simp [*]; done)
                     | (unfold rr2; simp [*]; omega))
            · refine WL_guard_yes rfl rfl rfl ?_
              refine WL_x (x_fieldAddr (n := 0) (o' := 3) Try.underlying81 rfl (by kernel_rfl) rfl rfl) ?_
              refine WL_guard_yes rfl rfl rfl ?_
              first | refine WL_x (x_load (v := .int .u8 _) Try.underlying5 rfl rfl (H.cellAt .zero rfl)) ?_ | refine WL_x (x_load (v := .int .u8 _) Try.underlying5 rfl rfl (H.cellAt (.succ .zero) rfl)) ?_ | refine WL_x (x_load Try.underlying5 rfl rfl (H.rnum .zero (by omega) (by omega))) ?_ | refine WL_x (x_load Try.underlying5 rfl rfl (H.rnum (.succ .zero) (by omega) (by omega))) ?_ | refine WL_x (x_load Try.underlying5 rfl rfl (H.onum .zero (by omega) (by omega))) ?_ | refine WL_x (x_load Try.underlying5 rfl rfl (H.onum (.succ .zero) (by omega) (by omega))) ?_
              refine WL_guard_yes rfl rfl rfl ?_
              refine WL_x (x_binop rfl rfl (r_gtr _ _ _ _)) ?_
              refine WL_guard_yes rfl rfl rfl ?_
              refine WL_x (x_pick (v := .bool _) rfl rfl) ?_
              refine WL_x (x_pick (v := .bool _) rfl rfl) ?_
              refine WL_nil ?_
              refine thenE_normal ?_
              first | refine WC_ifd rfl (fun h101 => ?_) (fun h101 => ?_) | refine WC_if rfl (fun h101 => ?_) (fun h101 => ?_)
              · refine WC_seq ?_
                refine WC_region ?_
                refine WL_x (x_assign (v := (.bool false)) rfl) ?_
                refine WL_nil ?_
                refine thenE_normal ?_
                refine WC_ret ?_
                refine thenE_ret ?_
                refine ends1 (v := .bool _) Try.results52 rfl ?_
                first
                  | exact ⟨by rw [hR], H.fr⟩
                  | (refine ⟨congrArg (fun b => Ending.returned (Value.bool b)) (Eq.symm ?_), H.fr⟩
                     first | rw [hR1] | rw [hR0]
                     clear H hR0
                     clear hc op0 op1 a0 a1 b0 b1 c0 c1 n0 n1 m0 m1 hsz hcells
                     first
                       | (simp [rr1, *]; done)
                       | (unfold rr2; simp [*]; done)
                       | (unfold rr2; simp [*]; omega))
              · refine WC_skip ?_
                refine thenE_normal ?_
                exact ⟨(), by clear H hR0 hR1; clear hc op0 op1 a0 a1 b0 b1 c0 c1 n0 n1 m0 m1 hsz hcells; simp [*], rfl, rfl, rfl, rfl, rfl, H⟩
          · refine WL_guard_no rfl rfl rfl ?_
            refine WL_guard_no rfl rfl rfl ?_
            refine WL_guard_no rfl rfl rfl ?_
            refine WL_guard_no rfl rfl rfl ?_
            refine WL_guard_u rfl rfl rfl ?_
            refine WL_guard_u rfl rfl rfl ?_
            refine WL_guard_u rfl rfl rfl ?_
            refine WL_guard_no rfl rfl rfl ?_
            refine WL_x (x_pick (v := .bool _) rfl rfl) ?_
            refine WL_nil ?_
            refine thenE_normal ?_
            refine WC_no rfl ?_
            refine WC_skip ?_
            refine thenE_normal ?_
            exact ⟨(), by clear H hR0 hR1; clear hc op0 op1 a0 a1 b0 b1 c0 c1 n0 n1 m0 m1 hsz hcells; simp [*], rfl, rfl, rfl, rfl, rfl, H⟩
        · clear H
          rintro _ f w ⟨hr9, h10, h11, h1, h2, h3, H⟩
          rw [← upd_self h10, ← upd_self h11, ← upd_self h1, ← upd_self h2, ← upd_self h3]
          refine WC_seq ?_
          refine WC_block ?_
          refine WC_seq ?_
          refine WC_region ?_
          refine WL_x (x_move (v := .string _) rfl) ?_
          refine WL_call (vs := [.string _, (.int .u8 110)]) Try.func61 rfl rfl rfl (has_ok _ u 110 hus) ?_
          rintro _ w ⟨rfl, hf⟩
          refine ⟨_, rfl, ?_⟩
          replace H := H.quiet hf
          refine WL_x (x_assign (v := .bool _) rfl) ?_
          refine WL_nil ?_
          refine thenE_normal ?_
          refine WC_if rfl (fun h102 => ?_) (fun h102 => ?_)
          · refine WC_seq ?_
            refine WC_region ?_
            refine WL_x (x_assign (v := (.bool true)) rfl) ?_
            refine WL_nil ?_
            refine thenE_normal ?_
            refine WC_ret ?_
            refine inBlockE_ret ?_
            refine thenE_ret ?_
            refine ends1 (v := .bool _) Try.results52 rfl ?_
            first
              | exact ⟨by rw [hR], H.fr⟩
              | (refine ⟨congrArg (fun b => Ending.returned (Value.bool b)) (Eq.symm ?_), H.fr⟩
                 first | rw [hR1] | rw [hR0]
                 clear H hR0
                 clear hc op0 op1 a0 a1 b0 b1 c0 c1 n0 n1 m0 m1 hsz hcells
                 first
                   | (simp [rr1, *]; done)
                   | (unfold rr2; simp [*]; done)
                   | (unfold rr2; simp [*]; omega))
          · refine WC_seq ?_
            refine WC_region ?_
            refine WL_x (x_move (v := .string _) rfl) ?_
            refine WL_call (vs := [.string _, (.int .u8 99)]) Try.func61 rfl rfl rfl (has_ok _ u 99 hus) ?_
            rintro _ w ⟨rfl, hf⟩
            refine ⟨_, rfl, ?_⟩
            replace H := H.quiet hf
            refine WL_x (x_assign (v := .bool _) rfl) ?_
            refine WL_nil ?_
            refine thenE_normal ?_
            refine WC_if rfl (fun h105 => ?_) (fun h105 => ?_)
            · refine WC_seq ?_
              refine WC_region ?_
              refine WL_x (x_move (v := .int .i64 _) rfl) ?_
              refine WL_x (x_binop rfl rfl (r_geq _ _ _ _)) ?_
              refine WL_x (x_move (v := .bool _) rfl) ?_
              first | refine WL_cased (t := 110) rfl (fun h110 => ?_) (fun h110 => ?_) | refine WL_casen (t := 110) rfl (fun h110 => ?_) (fun h110 => ?_) | refine WL_case (t := 110) rfl (fun h110 => ?_) (fun h110 => ?_)
              · refine WL_guard_yes rfl rfl rfl ?_
                refine WL_x (x_move (v := .int .i64 _) rfl) ?_
                refine WL_guard_yes rfl rfl rfl ?_
                refine WL_x (x_move (v := .int .i64 _) rfl) ?_
                refine WL_guard_yes rfl rfl rfl ?_
                refine WL_x (x_binop rfl rfl (r_lss _ _ _ _)) ?_
                refine WL_x (x_pick (v := .bool _) rfl rfl) ?_
                refine WL_x (x_assign (v := .bool _) rfl) ?_
                refine WL_nil ?_
                refine thenE_normal ?_
                refine WC_ret ?_
                refine inBlockE_ret ?_
                refine thenE_ret ?_
                refine ends1 (v := .bool _) Try.results52 rfl ?_
                first
                  | exact ⟨by rw [hR], H.fr⟩
                  | (refine ⟨congrArg (fun b => Ending.returned (Value.bool b)) (Eq.symm ?_), H.fr⟩
                     first | rw [hR1] | rw [hR0]
                     clear H hR0
                     clear hc op0 op1 a0 a1 b0 b1 c0 c1 n0 n1 m0 m1 hsz hcells
                     first
                       | (simp [rr1, *]; done)
                       | (unfold rr2; simp [*]; done)
                       | (unfold rr2; simp [*]; omega))
              · refine WL_guard_no rfl rfl rfl ?_
                refine WL_guard_no rfl rfl rfl ?_
                refine WL_guard_no rfl rfl rfl ?_
                refine WL_x (x_pick (v := .bool _) rfl rfl) ?_
                refine WL_x (x_assign (v := .bool _) rfl) ?_
                refine WL_nil ?_
                refine thenE_normal ?_
                refine WC_ret ?_
                refine inBlockE_ret ?_
                refine thenE_ret ?_
                refine ends1 (v := .bool _) Try.results52 rfl ?_
                first
                  | exact ⟨by rw [hR], H.fr⟩
                  | (refine ⟨congrArg (fun b => Ending.returned (Value.bool b)) (Eq.symm ?_), H.fr⟩
                     first | rw [hR1] | rw [hR0]
                     clear H hR0
                     clear hc op0 op1 a0 a1 b0 b1 c0 c1 n0 n1 m0 m1 hsz hcells
                     first
                       | (simp [rr1, *]; done)
                       | (unfold rr2; simp [*]; done)
                       | (unfold rr2; simp [*]; omega))
            · refine WC_seq ?_
              refine WC_region ?_
              refine WL_x (x_move (v := .string _) rfl) ?_
              refine WL_call (vs := [.string _, (.int .u8 112)]) Try.func61 rfl rfl rfl (has_ok _ u 112 hus) ?_
              rintro _ w ⟨rfl, hf⟩
              refine ⟨_, rfl, ?_⟩
              replace H := H.quiet hf
              refine WL_x (x_assign (v := .bool _) rfl) ?_
              refine WL_nil ?_
              refine thenE_normal ?_
              refine WC_if rfl (fun h115 => ?_) (fun h115 => ?_)
              · refine WC_seq ?_
                refine WC_region ?_
                refine WL_x (x_move (v := .int .i64 _) rfl) ?_
                refine WL_x (x_binop rfl rfl (r_geq _ _ _ _)) ?_
                refine WL_x (x_move (v := .bool _) rfl) ?_
                first | refine WL_cased (t := 120) rfl (fun h120 => ?_) (fun h120 => ?_) | refine WL_casen (t := 120) rfl (fun h120 => ?_) (fun h120 => ?_) | refine WL_case (t := 120) rfl (fun h120 => ?_) (fun h120 => ?_)
                · refine WL_guard_yes rfl rfl rfl ?_
                  refine WL_x (x_move (v := .int .i64 _) rfl) ?_
                  refine WL_guard_yes rfl rfl rfl ?_
                  refine WL_x (x_move (v := .int .i64 _) rfl) ?_
                  refine WL_guard_yes rfl rfl rfl ?_
                  refine WL_x (x_binop rfl rfl (r_leq _ _ _ _)) ?_
                  refine WL_x (x_pick (v := .bool _) rfl rfl) ?_
                  refine WL_x (x_assign (v := .bool _) rfl) ?_
                  refine WL_nil ?_
                  refine thenE_normal ?_
                  refine WC_ret ?_
                  refine inBlockE_ret ?_
                  refine thenE_ret ?_
                  refine ends1 (v := .bool _) Try.results52 rfl ?_
                  first
                    | exact ⟨by rw [hR], H.fr⟩
                    | (refine ⟨congrArg (fun b => Ending.returned (Value.bool b)) (Eq.symm ?_), H.fr⟩
                       first | rw [hR1] | rw [hR0]
                       clear H hR0
                       clear hc op0 op1 a0 a1 b0 b1 c0 c1 n0 n1 m0 m1 hsz hcells
                       first
                         | (simp [rr1, *]; done)
                         | (unfold rr2; simp [*]; done)
                         | (unfold rr2; simp [*]; omega))
                · refine WL_guard_no rfl rfl rfl ?_
                  refine WL_guard_no rfl rfl rfl ?_
                  refine WL_guard_no rfl rfl rfl ?_
                  refine WL_x (x_pick (v := .bool _) rfl rfl) ?_
                  refine WL_x (x_assign (v := .bool _) rfl) ?_
                  refine WL_nil ?_
                  refine thenE_normal ?_
                  refine WC_ret ?_
                  refine inBlockE_ret ?_
                  refine thenE_ret ?_
                  refine ends1 (v := .bool _) Try.results52 rfl ?_
                  first
                    | exact ⟨by rw [hR], H.fr⟩
                    | (refine ⟨congrArg (fun b => Ending.returned (Value.bool b)) (Eq.symm ?_), H.fr⟩
                       first | rw [hR1] | rw [hR0]
                       clear H hR0
                       clear hc op0 op1 a0 a1 b0 b1 c0 c1 n0 n1 m0 m1 hsz hcells
                       first
                         | (simp [rr1, *]; done)
                         | (unfold rr2; simp [*]; done)
                         | (unfold rr2; simp [*]; omega))
              · refine WC_seq ?_
                refine WC_region ?_
                refine WL_x (x_move (v := .string _) rfl) ?_
                refine WL_call (vs := [.string _, (.int .u8 109)]) Try.func61 rfl rfl rfl (has_ok _ u 109 hus) ?_
                rintro _ w ⟨rfl, hf⟩
                refine ⟨_, rfl, ?_⟩
                replace H := H.quiet hf
                refine WL_x (x_assign (v := .bool _) rfl) ?_
                refine WL_nil ?_
                refine thenE_normal ?_
                refine WC_if rfl (fun h125 => ?_) (fun h125 => ?_)
                · refine WC_seq ?_
                  refine WC_region ?_
                  refine WL_x (x_move (v := .int .i64 _) rfl) ?_
                  refine WL_x (x_binop rfl rfl (r_geq _ _ _ _)) ?_
                  refine WL_x (x_move (v := .bool _) rfl) ?_
                  first | refine WL_cased (t := 130) rfl (fun h130 => ?_) (fun h130 => ?_) | refine WL_casen (t := 130) rfl (fun h130 => ?_) (fun h130 => ?_) | refine WL_case (t := 130) rfl (fun h130 => ?_) (fun h130 => ?_)
                  · refine WL_guard_yes rfl rfl rfl ?_
                    refine WL_x (x_move (v := .int .i64 _) rfl) ?_
                    refine WL_guard_yes rfl rfl rfl ?_
                    refine WL_x (x_move (v := .int .i64 _) rfl) ?_
                    refine WL_guard_yes rfl rfl rfl ?_
                    refine WL_x (x_binop rfl rfl (r_lss _ _ _ _)) ?_
                    refine WL_x (x_pick (v := .bool _) rfl rfl) ?_
                    refine WL_x (x_assign (v := .bool _) rfl) ?_
                    refine WL_nil ?_
                    refine thenE_normal ?_
                    refine WC_ret ?_
                    refine inBlockE_ret ?_
                    refine thenE_ret ?_
                    refine ends1 (v := .bool _) Try.results52 rfl ?_
                    first
                      | exact ⟨by rw [hR], H.fr⟩
                      | (refine ⟨congrArg (fun b => Ending.returned (Value.bool b)) (Eq.symm ?_), H.fr⟩
                         first | rw [hR1] | rw [hR0]
                         clear H hR0
                         clear hc op0 op1 a0 a1 b0 b1 c0 c1 n0 n1 m0 m1 hsz hcells
                         first
                           | (simp [rr1, *]; done)
                           | (unfold rr2; simp [*]; done)
                           | (unfold rr2; simp [*]; omega))
                  · refine WL_guard_no rfl rfl rfl ?_
                    refine WL_guard_no rfl rfl rfl ?_
                    refine WL_guard_no rfl rfl rfl ?_
                    refine WL_x (x_pick (v := .bool _) rfl rfl) ?_
                    refine WL_x (x_assign (v := .bool _) rfl) ?_
                    refine WL_nil ?_
                    refine thenE_normal ?_
                    refine WC_ret ?_
                    refine inBlockE_ret ?_
                    refine thenE_ret ?_
                    refine ends1 (v := .bool _) Try.results52 rfl ?_
                    first
                      | exact ⟨by rw [hR], H.fr⟩
                      | (refine ⟨congrArg (fun b => Ending.returned (Value.bool b)) (Eq.symm ?_), H.fr⟩
                         first | rw [hR1] | rw [hR0]
                         clear H hR0
                         clear hc op0 op1 a0 a1 b0 b1 c0 c1 n0 n1 m0 m1 hsz hcells
                         first
                           | (simp [rr1, *]; done)
                           | (unfold rr2; simp [*]; done)
                           | (unfold rr2; simp [*]; omega))
                · refine WC_seq ?_
                  refine WC_region ?_
                  refine WL_x (x_move (v := .string _) rfl) ?_
                  refine WL_call (vs := [.string _, (.int .u8 115)]) Try.func61 rfl rfl rfl (has_ok _ u 115 hus) ?_
                  rintro _ w ⟨rfl, hf⟩
                  refine ⟨_, rfl, ?_⟩
                  replace H := H.quiet hf
                  refine WL_x (x_assign (v := .bool _) rfl) ?_
                  refine WL_nil ?_
                  refine thenE_normal ?_
                  refine WC_if rfl (fun h135 => ?_) (fun h135 => ?_)
                  · refine WC_seq ?_
                    refine WC_region ?_
                    refine WL_x (x_move (v := .int .i64 _) rfl) ?_
                    refine WL_x (x_binop rfl rfl (r_gtr _ _ _ _)) ?_
                    refine WL_x (x_assign (v := .bool _) rfl) ?_
                    refine WL_nil ?_
                    refine thenE_normal ?_
                    refine WC_ret ?_
                    refine inBlockE_ret ?_
                    refine thenE_ret ?_
                    refine ends1 (v := .bool _) Try.results52 rfl ?_
                    first
                      | exact ⟨by rw [hR], H.fr⟩
                      | (refine ⟨congrArg (fun b => Ending.returned (Value.bool b)) (Eq.symm ?_), H.fr⟩
                         first | rw [hR1] | rw [hR0]
                         clear H hR0
                         clear hc op0 op1 a0 a1 b0 b1 c0 c1 n0 n1 m0 m1 hsz hcells
                         first
                           | (simp [rr1, *]; done)
                           | (unfold rr2; simp [*]; done)
                           | (unfold rr2; simp [*]; omega))
                  · refine WC_skip ?_
                    refine inBlockE_normal ?_
                    refine thenE_normal ?_
                    refine WC_seq ?_
                    refine WC_region ?_
                    refine WL_x (x_move (v := .int .i64 _) rfl) ?_
                    refine WL_x (x_binop rfl rfl (r_eql _ _ _ _)) ?_
                    refine WL_x (x_assign (v := .bool _) rfl) ?_
                    refine WL_nil ?_
                    refine thenE_normal ?_
                    refine WC_ret ?_
                    refine ends1 (v := .bool _) Try.results52 rfl ?_
                    first
                      | exact ⟨by rw [hR], H.fr⟩
                      | (refine ⟨congrArg (fun b => Ending.returned (Value.bool b)) (Eq.symm ?_), H.fr⟩
                         first | rw [hR1] | rw [hR0]
                         clear H hR0
                         clear hc op0 op1 a0 a1 b0 b1 c0 c1 n0 n1 m0 m1 hsz hcells
                         first
                           | (simp [rr1, *]; done)
                           | (unfold rr2; simp [*]; done)
                           | (unfold rr2; simp [*]; omega))

theorem rcheck_ok (W : World) (l : List Cd) (A : Option Addr) (cap : Nat) (cells pl : Int) (hx : Cells W A (encs Cd.enc l)) (hl : l.length ≤ maxLen) (hc : ∀ c, c ∈ l → c.ok) (hcells : 0 ≤ cells ∧ cells ≤ 1000) :
    Calls Try.prog 38 #[.slice A l.length cap, .int .i64 cells, .int .i64 pl] W fun e w' => ∃ i : Int, e = .returned (.int .i64 i) ∧ decide (i < 0) = checkB l cells pl ∧ Fr [] W w' := by
  unfold maxLen at hl
  have H : St W [] [] [Go.HW.cells A (encs Cd.enc l)] W := St.start [] (by simp; exact cells_ok hx)
  refine calls_enter (N := 28) Try.func38 rfl Try.ntmps38 rfl ?_
  refine WC_seq ?_
  refine WC_region ?_
  refine WL_x (x_assign (v := (.int .i64 0)) rfl) ?_
  refine WL_nil ?_
  refine thenE_normal ?_
  refine WC_seq ?_
  refine WC_seq ?_
  refine WC_region ?_
  refine WL_x (x_move (v := .slice _ _ _) rfl) ?_
  refine WL_x (x_len Try.underlying47 rfl) ?_
  refine WL_x (x_binop rfl rfl (r_gtr _ _ _ _)) ?_
  refine WL_nil ?_
  refine thenE_normal ?_
  refine WC_ifd rfl (fun h11 => ?_) (fun h11 => ?_)
  · refine WC_seq ?_
    refine WC_region ?_
    refine WL_x (x_assign (v := (.int .i64 96)) rfl) ?_
    refine WL_nil ?_
    refine thenE_normal ?_
    refine WC_ret ?_
    refine thenE_ret ?_
    refine ends1 (v := .int .i64 _) Try.results38 rfl ?_
    first
      | exact ⟨_, rfl, by rw [checkB, decide_eq_true hl96, hall2]; rfl, H.fr⟩
      | exact ⟨_, rfl, by rw [checkB, hno, Bool.and_false, decide_eq_false (by omega)], H.fr⟩
      | exact ⟨_, rfl, by rw [checkB, decide_eq_false (show ¬ l.length ≤ 96 by omega), Bool.false_and]; rfl, H.fr⟩
  · have hl96 : l.length ≤ 96 := by omega
    refine WC_skip ?_
    refine thenE_normal ?_
    refine WC_seq ?_
    refine WC_seq ?_
    refine WC_region ?_
    refine WL_x (x_move (v := .slice _ _ _) rfl) ?_
    refine WL_x (x_len Try.underlying47 rfl) ?_
    refine WL_x (x_move (v := (.int .i64 0)) rfl) ?_
    refine WL_nil ?_
    refine thenE_normal ?_
    refine WC_block ?_
    refine WC_while (fun (k : Nat) f w' => k ≤ l.length ∧ (l.take k).all (fun c => rightB c l.length cells pl) = true ∧ f 14 = .int .i64 k ∧ f 13 = .int .i64 l.length ∧ f 12 = .slice A l.length cap ∧ f 0 = .slice A l.length cap ∧ f 1 = .int .i64 cells ∧ f 2 = .int .i64 pl ∧ St W [] [] [Go.HW.cells A (encs Cd.enc l)] w') (fun k => l.length - k) (s0 := 0) ?_ ?_
    · exact ⟨Nat.zero_le _, by simp, rfl, rfl, rfl, rfl, rfl, rfl, H⟩
    · clear H
      rintro k f w ⟨hk, hall, h14, h13, h12, h0, h1, h2, H⟩
      rw [← upd_self h14, ← upd_self h13, ← upd_self h12, ← upd_self h0, ← upd_self h1, ← upd_self h2]
      refine WC_seq ?_
      refine WC_region ?_
      refine WL_x (x_binop rfl rfl (r_lss _ _ _ _)) ?_
      refine WL_nil ?_
      refine thenE_normal ?_
      refine WC_seq ?_
      refine WC_ifd rfl (fun h15 => ?_) (fun h15 => ?_)
      · have hk15 : k < l.length := by omega
        refine WC_skip ?_
        refine thenE_normal ?_
        refine WC_seq ?_
        refine WC_block ?_
        refine WC_seq ?_
        refine WC_region ?_
        refine WL_x (x_move (v := .int .i64 _) rfl) ?_
        refine WL_x (x_indexAddr (s := 6) Try.underlying47 (by kernel_rfl) rfl rfl (by omega) (by omega) (H.rsome (l := encs Cd.enc l) .zero (by rw [encs_length Cd.enc Cd.len]; omega)) rfl) ?_
        refine WL_x (x_loadA (n := 6) (vs := (l[k]).enc) Try.underlying81 rfl (by kernel_rfl) rfl rfl (H.rrange (k := 6) .zero (by rw [Int.toNat_natCast]; exact encs_get Cd.enc Cd.len l k hk15))) ?_
        refine WL_alloc (l := [(.int .u8 0), (.int .u8 0), (.int .u8 0), (.int .u8 0), (.int .i32 0), (.int .u32 0)]) (by kernel_rfl) H ?_
        clear H; intro b8 w H
        refine WL_x (x_assign (v := .int .i64 _) rfl) ?_
        first | refine WL_storeA rfl rfl rfl (by kernel_rfl) H .zero (Nat.le_of_ble_eq_true rfl) (splice_all _ _ rfl) ?_ | refine WL_storeA rfl rfl rfl (by kernel_rfl) H (.succ .zero) (Nat.le_of_ble_eq_true rfl) (splice_all _ _ rfl) ?_ | refine WL_storeA rfl rfl rfl (by kernel_rfl) H (.succ (.succ .zero)) (Nat.le_of_ble_eq_true rfl) (splice_all _ _ rfl) ?_ | refine WL_storeA rfl rfl rfl (by kernel_rfl) H (.succ (.succ (.succ .zero))) (Nat.le_of_ble_eq_true rfl) (splice_all _ _ rfl) ?_ | refine WL_storeA rfl rfl rfl (by kernel_rfl) H (.succ (.succ (.succ (.succ .zero)))) (Nat.le_of_ble_eq_true rfl) (splice_all _ _ rfl) ?_
        clear H; intro w H
        refine WL_nil ?_
        refine thenE_normal ?_
        refine WC_seq ?_
        refine WC_region ?_
        refine WL_x (x_loadA (n := 6) (vs := (l[k]).enc) Try.underlying81 rfl (by kernel_rfl) rfl rfl (H.rangeAll .zero rfl rfl)) ?_
        refine WL_x (x_move (v := .slice _ _ _) rfl) ?_
        refine WL_x (x_len Try.underlying47 rfl) ?_
        refine WL_x (x_move (v := .int .i64 _) rfl) ?_
        refine WL_x (x_move (v := .int .i64 _) rfl) ?_
        refine WL_call (vs := [.agg (List.toArray _), .int .i64 _, .int .i64 _, .int .i64 _]) Try.func52 rfl rfl rfl (rright_ok _ (l[k]) (hc _ (List.getElem_mem _)) _ _ _ (by omega) (by omega)) ?_
        rintro _ w ⟨rfl, hf⟩
        rw [refR_eq _ (hc _ (List.getElem_mem _))]
        refine ⟨_, rfl, ?_⟩
        replace H := H.quiet hf
        refine WL_x (x_not rfl) ?_
        refine WL_nil ?_
        refine thenE_normal ?_
        refine WC_if rfl (fun h25 => ?_) (fun h25 => ?_)
        · have hno : l.all (fun c => rightB c l.length cells pl) = false := List.all_eq_false.2 ⟨l[k], List.getElem_mem _, by simpa using h25⟩
          refine WC_seq ?_
          refine WC_region ?_
          refine WL_x (x_move (v := .int .i64 _) rfl) ?_
          refine WL_x (x_assign (v := .int .i64 _) rfl) ?_
          refine WL_nil ?_
          refine thenE_normal ?_
          refine WC_ret ?_
          refine inBlockE_ret ?_
          refine thenE_ret ?_
          refine thenE_ret ?_
          refine inBlockE_ret ?_
          refine thenE_ret ?_
          refine ends1 (v := .int .i64 _) Try.results38 rfl ?_
          first
            | exact ⟨_, rfl, by rw [checkB, decide_eq_true hl96, hall2]; rfl, H.fr⟩
            | exact ⟨_, rfl, by rw [checkB, hno, Bool.and_false, decide_eq_false (by omega)], H.fr⟩
            | exact ⟨_, rfl, by rw [checkB, decide_eq_false (show ¬ l.length ≤ 96 by omega), Bool.false_and]; rfl, H.fr⟩
        · have h24 : rightB l[k] l.length cells pl = true := by simpa using h25
          refine WC_skip ?_
          refine inBlockE_normal ?_
          refine thenE_normal ?_
          refine WC_region ?_
          refine WL_x (x_binop rfl rfl (r_add_in (i64_in (by omega) (by omega)))) ?_
          refine WL_x (x_move (v := .int .i64 _) rfl) ?_
          refine WL_nil ?_
          refine thenE_normal ?_
          refine ⟨k + 1, ⟨by omega, ?_, by simp [upd], rfl, rfl, rfl, rfl, rfl, H.drop (by simp) (by simp)⟩, by omega⟩
          rw [List.take_succ_eq_append_getElem hk15, List.all_append, hall]
          simpa using h24
      · have hall2 : l.all (fun c => rightB c l.length cells pl) = true := by rw [← hall, List.take_of_length_le (by omega)]
        refine WC_exit ?_
        refine thenE_exit ?_
        refine thenE_exit ?_
        refine inBlockE_exit ?_
        refine thenE_normal ?_
        refine WC_seq ?_
        refine WC_region ?_
        refine WL_x (x_assign (v := (.int .i64 (-1))) rfl) ?_
        refine WL_nil ?_
        refine thenE_normal ?_
        refine WC_ret ?_
        refine ends1 (v := .int .i64 _) Try.results38 rfl ?_
        first
          | exact ⟨_, rfl, by rw [checkB, decide_eq_true hl96, hall2]; rfl, H.fr⟩
          | exact ⟨_, rfl, by rw [checkB, hno, Bool.and_false, decide_eq_false (by omega)], H.fr⟩
          | exact ⟨_, rfl, by rw [checkB, decide_eq_false (show ¬ l.length ≤ 96 by omega), Bool.false_and]; rfl, H.fr⟩

theorem all_step {i : Nat} (h : i < 32) : IntKind.u32.wrap (IntKind.u32.wrap (2 * ((2 : Int) ^ i - 1)) + 1) = (2 : Int) ^ (i + 1) - 1 := by
  have h1 : (2 : Int) ^ i ≤ 2147483648 := by
    have := Nat.pow_le_pow_right (n := 2) (by decide) (show i ≤ 31 by omega)
    have e : (2 : Nat) ^ 31 = 2147483648 := by decide
    rw [e] at this
    have h3 : ((2 ^ i : Nat) : Int) ≤ ((2147483648 : Nat) : Int) := Int.ofNat_le.2 this
    rw [Int.natCast_pow] at h3
    exact h3
  have h2 : (0 : Int) < 2 ^ i := Int.pow_pos (by decide)
  rw [Int.pow_succ]
  generalize (2 : Int) ^ i = p at *
  have e1 : IntKind.u32.wrap (2 * (p - 1)) = 2 * (p - 1) := u32_in (by omega) (by omega)
  rw [e1, u32_in (by omega) (by omega)]
  omega
theorem rall_ok (W : World) (o : Int) (ho : -9223372036854775808 ≤ o ∧ o ≤ 9223372036854775807) : Calls Try.prog 37 #[.int .i64 o] W fun e w' => e = .returned (.int .u32 (allM o)) ∧ Fr [] W w' := by
  have H : St W [] [] [] W := St.start [] (by simp)
  refine calls_enter (N := 18) Try.func37 rfl Try.ntmps37 rfl ?_
  refine WC_seq ?_
  refine WC_region ?_
  refine WL_x (x_assign (v := (.int .u32 0)) rfl) ?_
  refine WL_nil ?_
  refine thenE_normal ?_
  refine WC_seq ?_
  refine WC_region ?_
  refine WL_x (x_assign (v := (.int .u32 0)) rfl) ?_
  refine WL_nil ?_
  refine thenE_normal ?_
  refine WC_seq ?_
  refine WC_seq ?_
  refine WC_region ?_
  refine WL_x (x_assign (v := (.int .i64 0)) rfl) ?_
  refine WL_nil ?_
  refine thenE_normal ?_
  refine WC_block ?_
  refine WC_while (fun (i : Nat) f w' => i ≤ 32 ∧ (i = 0 ∨ (i : Int) ≤ o) ∧ f 3 = .int .u32 ((2 : Int) ^ i - 1) ∧ f 4 = .int .i64 i ∧ f 0 = .int .i64 o ∧ St W [] [] [] w') (fun i => 32 - i) (s0 := 0) ?_ ?_
  · exact ⟨by omega, .inl rfl, rfl, rfl, rfl, H⟩
  · clear H
    rintro i f w ⟨hi, hio, h3, h4, h0, H⟩
    rw [← upd_self h3, ← upd_self h4, ← upd_self h0]
    refine WC_seq ?_
    refine WC_seq ?_
    refine WC_region ?_
    refine WL_x (x_move (v := .int .i64 _) rfl) ?_
    refine WL_x (x_move (v := .int .i64 _) rfl) ?_
    refine WL_x (x_binop rfl rfl (r_lss _ _ _ _)) ?_
    refine WL_x (x_move (v := .bool _) rfl) ?_
    first | refine WL_cased (t := 8) rfl (fun h8 => ?_) (fun h8 => ?_) | refine WL_casen (t := 8) rfl (fun h8 => ?_) (fun h8 => ?_) | refine WL_case (t := 8) rfl (fun h8 => ?_) (fun h8 => ?_)
    · refine WL_guard_yes rfl rfl rfl ?_
      refine WL_x (x_move (v := .int .i64 _) rfl) ?_
      refine WL_guard_yes rfl rfl rfl ?_
      refine WL_x (x_binop rfl rfl (r_lss _ _ _ _)) ?_
      refine WL_x (x_pick (v := .bool _) rfl rfl) ?_
      refine WL_nil ?_
      refine thenE_normal ?_
      refine WC_ifd rfl (fun h11 => ?_) (fun h11 => ?_)
      · refine WC_skip ?_
        refine thenE_normal ?_
        refine WC_seq ?_
        refine WC_block ?_
        refine WC_region ?_
        refine WL_x (x_move (v := .int .u32 _) rfl) ?_
        refine WL_x (x_binop rfl rfl (r_mul _ _ _ _)) ?_
        refine WL_x (x_binop rfl rfl (r_add _ _ _ _)) ?_
        refine WL_x (x_assign (v := .int .u32 _) rfl) ?_
        refine WL_nil ?_
        refine inBlockE_normal ?_
        refine thenE_normal ?_
        refine WC_region ?_
        refine WL_x (x_move (v := .int .i64 _) rfl) ?_
        refine WL_x (x_binop rfl rfl (r_add_in (i64_in (by omega) (by omega)))) ?_
        refine WL_x (x_assign (v := .int .i64 _) rfl) ?_
        refine WL_nil ?_
        refine thenE_normal ?_
        exact ⟨i + 1, ⟨by omega, .inr (by omega), congrArg (Value.int .u32) (all_step (by omega)), rfl, rfl, H⟩, by omega⟩
      · have hR : allM o = (2 : Int) ^ i - 1 := by unfold allM; rw [show (min (max o 0) 32).toNat = i by omega]
        refine WC_exit ?_
        refine thenE_exit ?_
        refine thenE_exit ?_
        refine inBlockE_exit ?_
        refine thenE_normal ?_
        refine WC_seq ?_
        refine WC_region ?_
        refine WL_x (x_move (v := .int .u32 _) rfl) ?_
        refine WL_x (x_assign (v := .int .u32 _) rfl) ?_
        refine WL_nil ?_
        refine thenE_normal ?_
        refine WC_ret ?_
        refine ends1 (v := .int .u32 _) Try.results37 rfl ?_
        exact ⟨by rw [hR], H.fr⟩
    · have hR : allM o = (2 : Int) ^ i - 1 := by unfold allM; rw [show (min (max o 0) 32).toNat = i by omega]
      refine WL_guard_no rfl rfl rfl ?_
      refine WL_guard_no rfl rfl rfl ?_
      refine WL_x (x_pick (v := .bool _) rfl rfl) ?_
      refine WL_nil ?_
      refine thenE_normal ?_
      refine WC_no rfl ?_
      refine WC_exit ?_
      refine thenE_exit ?_
      refine thenE_exit ?_
      refine inBlockE_exit ?_
      refine thenE_normal ?_
      refine WC_seq ?_
      refine WC_region ?_
      refine WL_x (x_move (v := .int .u32 _) rfl) ?_
      refine WL_x (x_assign (v := .int .u32 _) rfl) ?_
      refine WL_nil ?_
      refine thenE_normal ?_
      refine WC_ret ?_
      refine ends1 (v := .int .u32 _) Try.results37 rfl ?_
      exact ⟨by rw [hR], H.fr⟩

set_option maxHeartbeats 1000000 in
theorem r10right_ok (W : World) (g : Gm) (A B : Option Addr) (ca cb : Nat) (hg : g.ok) (hx : Cells W A (encs Cel.enc g.cells)) (hy : Cells W B (encs Cd.enc g.code)) :
    Calls Try.prog 30 #[.agg (g.val A ca B cb).toArray] W fun e w' => e = .returned (.bool (gameRight g)) ∧ Fr [] W w' := by
  have hnc := hg.nc
  unfold maxLen at hnc
  have H : St W [] [] [Go.HW.cells A (encs Cel.enc g.cells), Go.HW.cells B (encs Cd.enc g.code)] W := St.start [] (by simp; exact ⟨cells_ok hx, cells_ok hy⟩)
  refine calls_enter (N := 67) Try.func30 rfl Try.ntmps30 rfl ?_
  refine WC_seq ?_
  refine WC_region ?_
  refine WL_box (v := .agg (List.toArray _)) rfl rfl H ?_
  clear H; intro b1 w H
  refine WL_x (x_assign (v := (.bool false)) rfl) ?_
  refine WL_nil ?_
  refine thenE_normal ?_
  refine WC_cut (fun (_ : Unit) f w' => ((1 ≤ g.obs ∧ g.obs ≤ 32) ∧ (1 ≤ g.pl ∧ g.pl ≤ min 6 g.obs) ∧ g.dflt < g.moves ∧ g.cells.length ≤ 48) ∧ f 1 = .pointer (some ⟨b1, 0, none⟩) ∧ St W [] [blk b1 (g.val A ca B cb) 49] [Go.HW.cells A (encs Cel.enc g.cells), Go.HW.cells B (encs Cd.enc g.code)] w') ?_ ?_
  · refine WC_seq ?_
    refine WC_region ?_
    refine WL_x (x_fieldAddr (n := 0) (o' := 0) Try.underlying49 rfl (by kernel_rfl) rfl rfl) ?_
    first | refine WL_x (x_load (v := .int .i64 _) Try.underlying3 rfl rfl (H.cellAt .zero rfl)) ?_ | refine WL_x (x_load (v := .int .i64 _) Try.underlying3 rfl rfl (H.cellAt (.succ .zero) rfl)) ?_ | refine WL_x (x_load (v := .int .i64 _) Try.underlying3 rfl rfl (H.cellAt (.succ (.succ .zero)) rfl)) ?_ | refine WL_x (x_load (v := .int .i64 _) Try.underlying3 rfl rfl (H.cellAt (.succ (.succ (.succ .zero))) rfl)) ?_ | refine WL_x (x_load (v := .int .i64 _) Try.underlying3 rfl rfl (H.cellAt (.succ (.succ (.succ (.succ .zero)))) rfl)) ?_ | refine WL_x (x_load Try.underlying3 rfl rfl (H.rnum .zero (by omega) (by omega))) ?_ | refine WL_x (x_load Try.underlying3 rfl rfl (H.rnum (.succ .zero) (by omega) (by omega))) ?_ | refine WL_x (x_load Try.underlying3 rfl rfl (H.rnum (.succ (.succ .zero)) (by omega) (by omega))) ?_ | refine WL_x (x_load Try.underlying3 rfl rfl (H.onum .zero (by omega) (by omega))) ?_ | refine WL_x (x_load Try.underlying3 rfl rfl (H.onum (.succ .zero) (by omega) (by omega))) ?_ | refine WL_x (x_load Try.underlying3 rfl rfl (H.onum (.succ (.succ .zero)) (by omega) (by omega))) ?_
    refine WL_x (x_binop rfl rfl (r_lss _ _ _ _)) ?_
    refine WL_x (x_move (v := .bool _) rfl) ?_
    first | refine WL_cased (t := 8) rfl (fun h8 => ?_) (fun h8 => ?_) | refine WL_casen (t := 8) rfl (fun h8 => ?_) (fun h8 => ?_) | refine WL_case (t := 8) rfl (fun h8 => ?_) (fun h8 => ?_)
    · refine WL_guard_no rfl rfl rfl ?_
      refine WL_guard_no rfl rfl rfl ?_
      refine WL_guard_no rfl rfl rfl ?_
      refine WL_x (x_pick (v := .bool _) rfl rfl) ?_
      refine WL_x (x_move (v := .bool _) rfl) ?_
      refine WL_guard_no rfl rfl rfl ?_
      refine WL_guard_no rfl rfl rfl ?_
      refine WL_guard_no rfl rfl rfl ?_
      refine WL_x (x_pick (v := .bool _) rfl rfl) ?_
      refine WL_x (x_move (v := .bool _) rfl) ?_
      refine WL_guard_no rfl rfl rfl ?_
      refine WL_guard_no rfl rfl rfl ?_
      refine WL_guard_no rfl rfl rfl ?_
      refine WL_x (x_pick (v := .bool _) rfl rfl) ?_
      refine WL_x (x_move (v := .bool _) rfl) ?_
      refine WL_guard_no rfl rfl rfl ?_
      refine WL_guard_no rfl rfl rfl ?_
      refine WL_guard_no rfl rfl rfl ?_
      refine WL_guard_no rfl rfl rfl ?_
      refine WL_guard_no rfl rfl rfl ?_
      refine WL_x (x_pick (v := .bool _) rfl rfl) ?_
      refine WL_x (x_move (v := .bool _) rfl) ?_
      refine WL_guard_no rfl rfl rfl ?_
      refine WL_guard_no rfl rfl rfl ?_
      refine WL_guard_no rfl rfl rfl ?_
      refine WL_guard_no rfl rfl rfl ?_
      refine WL_guard_no rfl rfl rfl ?_
      refine WL_x (x_pick (v := .bool _) rfl rfl) ?_
      refine WL_x (x_move (v := .bool _) rfl) ?_
      refine WL_guard_no rfl rfl rfl ?_
      refine WL_guard_no rfl rfl rfl ?_
      refine WL_guard_no rfl rfl rfl ?_
      refine WL_guard_no rfl rfl rfl ?_
      refine WL_x (x_pick (v := .bool _) rfl rfl) ?_
      refine WL_nil ?_
      refine thenE_normal ?_
      refine WC_yes rfl ?_
      refine WC_seq ?_
      refine WC_region ?_
      refine WL_x (x_assign (v := (.bool false)) rfl) ?_
      refine WL_nil ?_
      refine thenE_normal ?_
      refine WC_ret ?_
      refine thenE_ret ?_
      refine ends1 (v := .bool _) Try.results30 rfl ?_
      refine ⟨congrArg (fun b => Ending.returned (Value.bool b)) ?_, H.fr⟩
      clear H
      unfold gameRight
      first
        | rw [hno, Bool.false_and, Bool.and_false, Bool.and_false, Bool.and_false]
        | (rw [hall2, hi, decide_eq_true g1, decide_eq_true g2, decide_eq_true g3, decide_eq_true g4, decide_eq_true g5, decide_eq_true g6]; rfl)
        | rw [decide_eq_false (show ¬ (1 ≤ g.obs) by omega), Bool.false_and, Bool.false_and]
        | rw [decide_eq_false (show ¬ (g.obs ≤ 32) by omega), Bool.and_false, Bool.false_and]
        | rw [decide_eq_false (show ¬ (1 ≤ g.pl) by omega), Bool.false_and, Bool.false_and, Bool.and_false]
        | rw [decide_eq_false (show ¬ (g.pl ≤ min 6 g.obs) by omega), Bool.and_false, Bool.false_and, Bool.and_false]
        | rw [decide_eq_false (show ¬ (g.dflt < g.moves) by omega), Bool.false_and, Bool.false_and, Bool.and_false, Bool.and_false]
        | rw [decide_eq_false (show ¬ (g.cells.length ≤ 48) by omega), Bool.and_false, Bool.false_and, Bool.and_false, Bool.and_false]
    · refine WL_guard_yes rfl rfl rfl ?_
      refine WL_x (x_fieldAddr (n := 0) (o' := 0) Try.underlying49 rfl (by kernel_rfl) rfl rfl) ?_
      refine WL_guard_yes rfl rfl rfl ?_
      first | refine WL_x (x_load (v := .int .i64 _) Try.underlying3 rfl rfl (H.cellAt .zero rfl)) ?_ | refine WL_x (x_load (v := .int .i64 _) Try.underlying3 rfl rfl (H.cellAt (.succ .zero) rfl)) ?_ | refine WL_x (x_load (v := .int .i64 _) Try.underlying3 rfl rfl (H.cellAt (.succ (.succ .zero)) rfl)) ?_ | refine WL_x (x_load (v := .int .i64 _) Try.underlying3 rfl rfl (H.cellAt (.succ (.succ (.succ .zero))) rfl)) ?_ | refine WL_x (x_load (v := .int .i64 _) Try.underlying3 rfl rfl (H.cellAt (.succ (.succ (.succ (.succ .zero)))) rfl)) ?_ | refine WL_x (x_load Try.underlying3 rfl rfl (H.rnum .zero (by omega) (by omega))) ?_ | refine WL_x (x_load Try.underlying3 rfl rfl (H.rnum (.succ .zero) (by omega) (by omega))) ?_ | refine WL_x (x_load Try.underlying3 rfl rfl (H.rnum (.succ (.succ .zero)) (by omega) (by omega))) ?_ | refine WL_x (x_load Try.underlying3 rfl rfl (H.onum .zero (by omega) (by omega))) ?_ | refine WL_x (x_load Try.underlying3 rfl rfl (H.onum (.succ .zero) (by omega) (by omega))) ?_ | refine WL_x (x_load Try.underlying3 rfl rfl (H.onum (.succ (.succ .zero)) (by omega) (by omega))) ?_
      refine WL_guard_yes rfl rfl rfl ?_
      refine WL_x (x_binop rfl rfl (r_gtr _ _ _ _)) ?_
      refine WL_x (x_pick (v := .bool _) rfl rfl) ?_
      refine WL_x (x_move (v := .bool _) rfl) ?_
      first | refine WL_cased (t := 13) rfl (fun h13 => ?_) (fun h13 => ?_) | refine WL_casen (t := 13) rfl (fun h13 => ?_) (fun h13 => ?_) | refine WL_case (t := 13) rfl (fun h13 => ?_) (fun h13 => ?_)
      · refine WL_guard_no rfl rfl rfl ?_
        refine WL_guard_no rfl rfl rfl ?_
        refine WL_guard_no rfl rfl rfl ?_
        refine WL_x (x_pick (v := .bool _) rfl rfl) ?_
        refine WL_x (x_move (v := .bool _) rfl) ?_
        refine WL_guard_no rfl rfl rfl ?_
        refine WL_guard_no rfl rfl rfl ?_
        refine WL_guard_no rfl rfl rfl ?_
        refine WL_x (x_pick (v := .bool _) rfl rfl) ?_
        refine WL_x (x_move (v := .bool _) rfl) ?_
        refine WL_guard_no rfl rfl rfl ?_
        refine WL_guard_no rfl rfl rfl ?_
        refine WL_guard_no rfl rfl rfl ?_
        refine WL_guard_no rfl rfl rfl ?_
        refine WL_guard_no rfl rfl rfl ?_
        refine WL_x (x_pick (v := .bool _) rfl rfl) ?_
        refine WL_x (x_move (v := .bool _) rfl) ?_
        refine WL_guard_no rfl rfl rfl ?_
        refine WL_guard_no rfl rfl rfl ?_
        refine WL_guard_no rfl rfl rfl ?_
        refine WL_guard_no rfl rfl rfl ?_
        refine WL_guard_no rfl rfl rfl ?_
        refine WL_x (x_pick (v := .bool _) rfl rfl) ?_
        refine WL_x (x_move (v := .bool _) rfl) ?_
        refine WL_guard_no rfl rfl rfl ?_
        refine WL_guard_no rfl rfl rfl ?_
        refine WL_guard_no rfl rfl rfl ?_
        refine WL_guard_no rfl rfl rfl ?_
        refine WL_x (x_pick (v := .bool _) rfl rfl) ?_
        refine WL_nil ?_
        refine thenE_normal ?_
        refine WC_yes rfl ?_
        refine WC_seq ?_
        refine WC_region ?_
        refine WL_x (x_assign (v := (.bool false)) rfl) ?_
        refine WL_nil ?_
        refine thenE_normal ?_
        refine WC_ret ?_
        refine thenE_ret ?_
        refine ends1 (v := .bool _) Try.results30 rfl ?_
        refine ⟨congrArg (fun b => Ending.returned (Value.bool b)) ?_, H.fr⟩
        clear H
        unfold gameRight
        first
          | rw [hno, Bool.false_and, Bool.and_false, Bool.and_false, Bool.and_false]
          | (rw [hall2, hi, decide_eq_true g1, decide_eq_true g2, decide_eq_true g3, decide_eq_true g4, decide_eq_true g5, decide_eq_true g6]; rfl)
          | rw [decide_eq_false (show ¬ (1 ≤ g.obs) by omega), Bool.false_and, Bool.false_and]
          | rw [decide_eq_false (show ¬ (g.obs ≤ 32) by omega), Bool.and_false, Bool.false_and]
          | rw [decide_eq_false (show ¬ (1 ≤ g.pl) by omega), Bool.false_and, Bool.false_and, Bool.and_false]
          | rw [decide_eq_false (show ¬ (g.pl ≤ min 6 g.obs) by omega), Bool.and_false, Bool.false_and, Bool.and_false]
          | rw [decide_eq_false (show ¬ (g.dflt < g.moves) by omega), Bool.false_and, Bool.false_and, Bool.and_false, Bool.and_false]
          | rw [decide_eq_false (show ¬ (g.cells.length ≤ 48) by omega), Bool.and_false, Bool.false_and, Bool.and_false, Bool.and_false]
      · refine WL_guard_yes rfl rfl rfl ?_
        refine WL_x (x_fieldAddr (n := 0) (o' := 1) Try.underlying49 rfl (by kernel_rfl) rfl rfl) ?_
        refine WL_guard_yes rfl rfl rfl ?_
        first | refine WL_x (x_load (v := .int .i64 _) Try.underlying3 rfl rfl (H.cellAt .zero rfl)) ?_ | refine WL_x (x_load (v := .int .i64 _) Try.underlying3 rfl rfl (H.cellAt (.succ .zero) rfl)) ?_ | refine WL_x (x_load (v := .int .i64 _) Try.underlying3 rfl rfl (H.cellAt (.succ (.succ .zero)) rfl)) ?_ | refine WL_x (x_load (v := .int .i64 _) Try.underlying3 rfl rfl (H.cellAt (.succ (.succ (.succ .zero))) rfl)) ?_ | refine WL_x (x_load (v := .int .i64 _) Try.underlying3 rfl rfl (H.cellAt (.succ (.succ (.succ (.succ .zero)))) rfl)) ?_ | refine WL_x (x_load Try.underlying3 rfl rfl (H.rnum .zero (by omega) (by omega))) ?_ | refine WL_x (x_load Try.underlying3 rfl rfl (H.rnum (.succ .zero) (by omega) (by omega))) ?_ | refine WL_x (x_load Try.underlying3 rfl rfl (H.rnum (.succ (.succ .zero)) (by omega) (by omega))) ?_ | refine WL_x (x_load Try.underlying3 rfl rfl (H.onum .zero (by omega) (by omega))) ?_ | refine WL_x (x_load Try.underlying3 rfl rfl (H.onum (.succ .zero) (by omega) (by omega))) ?_ | refine WL_x (x_load Try.underlying3 rfl rfl (H.onum (.succ (.succ .zero)) (by omega) (by omega))) ?_
        refine WL_guard_yes rfl rfl rfl ?_
        refine WL_x (x_binop rfl rfl (r_lss _ _ _ _)) ?_
        refine WL_x (x_pick (v := .bool _) rfl rfl) ?_
        refine WL_x (x_move (v := .bool _) rfl) ?_
        first | refine WL_cased (t := 18) rfl (fun h18 => ?_) (fun h18 => ?_) | refine WL_casen (t := 18) rfl (fun h18 => ?_) (fun h18 => ?_) | refine WL_case (t := 18) rfl (fun h18 => ?_) (fun h18 => ?_)
        · refine WL_guard_no rfl rfl rfl ?_
          refine WL_guard_no rfl rfl rfl ?_
          refine WL_guard_no rfl rfl rfl ?_
          refine WL_x (x_pick (v := .bool _) rfl rfl) ?_
          refine WL_x (x_move (v := .bool _) rfl) ?_
          refine WL_guard_no rfl rfl rfl ?_
          refine WL_guard_no rfl rfl rfl ?_
          refine WL_guard_no rfl rfl rfl ?_
          refine WL_guard_no rfl rfl rfl ?_
          refine WL_guard_no rfl rfl rfl ?_
          refine WL_x (x_pick (v := .bool _) rfl rfl) ?_
          refine WL_x (x_move (v := .bool _) rfl) ?_
          refine WL_guard_no rfl rfl rfl ?_
          refine WL_guard_no rfl rfl rfl ?_
          refine WL_guard_no rfl rfl rfl ?_
          refine WL_guard_no rfl rfl rfl ?_
          refine WL_guard_no rfl rfl rfl ?_
          refine WL_x (x_pick (v := .bool _) rfl rfl) ?_
          refine WL_x (x_move (v := .bool _) rfl) ?_
          refine WL_guard_no rfl rfl rfl ?_
          refine WL_guard_no rfl rfl rfl ?_
          refine WL_guard_no rfl rfl rfl ?_
          refine WL_guard_no rfl rfl rfl ?_
          refine WL_x (x_pick (v := .bool _) rfl rfl) ?_
          refine WL_nil ?_
          refine thenE_normal ?_
          refine WC_yes rfl ?_
          refine WC_seq ?_
          refine WC_region ?_
          refine WL_x (x_assign (v := (.bool false)) rfl) ?_
          refine WL_nil ?_
          refine thenE_normal ?_
          refine WC_ret ?_
          refine thenE_ret ?_
          refine ends1 (v := .bool _) Try.results30 rfl ?_
          refine ⟨congrArg (fun b => Ending.returned (Value.bool b)) ?_, H.fr⟩
          clear H
          unfold gameRight
          first
            | rw [hno, Bool.false_and, Bool.and_false, Bool.and_false, Bool.and_false]
            | (rw [hall2, hi, decide_eq_true g1, decide_eq_true g2, decide_eq_true g3, decide_eq_true g4, decide_eq_true g5, decide_eq_true g6]; rfl)
            | rw [decide_eq_false (show ¬ (1 ≤ g.obs) by omega), Bool.false_and, Bool.false_and]
            | rw [decide_eq_false (show ¬ (g.obs ≤ 32) by omega), Bool.and_false, Bool.false_and]
            | rw [decide_eq_false (show ¬ (1 ≤ g.pl) by omega), Bool.false_and, Bool.false_and, Bool.and_false]
            | rw [decide_eq_false (show ¬ (g.pl ≤ min 6 g.obs) by omega), Bool.and_false, Bool.false_and, Bool.and_false]
            | rw [decide_eq_false (show ¬ (g.dflt < g.moves) by omega), Bool.false_and, Bool.false_and, Bool.and_false, Bool.and_false]
            | rw [decide_eq_false (show ¬ (g.cells.length ≤ 48) by omega), Bool.and_false, Bool.false_and, Bool.and_false, Bool.and_false]
        · refine WL_guard_yes rfl rfl rfl ?_
          refine WL_x (x_fieldAddr (n := 0) (o' := 1) Try.underlying49 rfl (by kernel_rfl) rfl rfl) ?_
          refine WL_guard_yes rfl rfl rfl ?_
          first | refine WL_x (x_load (v := .int .i64 _) Try.underlying3 rfl rfl (H.cellAt .zero rfl)) ?_ | refine WL_x (x_load (v := .int .i64 _) Try.underlying3 rfl rfl (H.cellAt (.succ .zero) rfl)) ?_ | refine WL_x (x_load (v := .int .i64 _) Try.underlying3 rfl rfl (H.cellAt (.succ (.succ .zero)) rfl)) ?_ | refine WL_x (x_load (v := .int .i64 _) Try.underlying3 rfl rfl (H.cellAt (.succ (.succ (.succ .zero))) rfl)) ?_ | refine WL_x (x_load (v := .int .i64 _) Try.underlying3 rfl rfl (H.cellAt (.succ (.succ (.succ (.succ .zero)))) rfl)) ?_ | refine WL_x (x_load Try.underlying3 rfl rfl (H.rnum .zero (by omega) (by omega))) ?_ | refine WL_x (x_load Try.underlying3 rfl rfl (H.rnum (.succ .zero) (by omega) (by omega))) ?_ | refine WL_x (x_load Try.underlying3 rfl rfl (H.rnum (.succ (.succ .zero)) (by omega) (by omega))) ?_ | refine WL_x (x_load Try.underlying3 rfl rfl (H.onum .zero (by omega) (by omega))) ?_ | refine WL_x (x_load Try.underlying3 rfl rfl (H.onum (.succ .zero) (by omega) (by omega))) ?_ | refine WL_x (x_load Try.underlying3 rfl rfl (H.onum (.succ (.succ .zero)) (by omega) (by omega))) ?_
          refine WL_guard_yes rfl rfl rfl ?_
          refine WL_x (x_binop rfl rfl (r_gtr _ _ _ _)) ?_
          refine WL_x (x_pick (v := .bool _) rfl rfl) ?_
          refine WL_x (x_move (v := .bool _) rfl) ?_
          first | refine WL_cased (t := 23) rfl (fun h23 => ?_) (fun h23 => ?_) | refine WL_casen (t := 23) rfl (fun h23 => ?_) (fun h23 => ?_) | refine WL_case (t := 23) rfl (fun h23 => ?_) (fun h23 => ?_)
          · refine WL_guard_no rfl rfl rfl ?_
            refine WL_guard_no rfl rfl rfl ?_
            refine WL_guard_no rfl rfl rfl ?_
            refine WL_guard_no rfl rfl rfl ?_
            refine WL_guard_no rfl rfl rfl ?_
            refine WL_x (x_pick (v := .bool _) rfl rfl) ?_
            refine WL_x (x_move (v := .bool _) rfl) ?_
            refine WL_guard_no rfl rfl rfl ?_
            refine WL_guard_no rfl rfl rfl ?_
            refine WL_guard_no rfl rfl rfl ?_
            refine WL_guard_no rfl rfl rfl ?_
            refine WL_guard_no rfl rfl rfl ?_
            refine WL_x (x_pick (v := .bool _) rfl rfl) ?_
            refine WL_x (x_move (v := .bool _) rfl) ?_
            refine WL_guard_no rfl rfl rfl ?_
            refine WL_guard_no rfl rfl rfl ?_
            refine WL_guard_no rfl rfl rfl ?_
            refine WL_guard_no rfl rfl rfl ?_
            refine WL_x (x_pick (v := .bool _) rfl rfl) ?_
            refine WL_nil ?_
            refine thenE_normal ?_
            refine WC_yes rfl ?_
            refine WC_seq ?_
            refine WC_region ?_
            refine WL_x (x_assign (v := (.bool false)) rfl) ?_
            refine WL_nil ?_
            refine thenE_normal ?_
            refine WC_ret ?_
            refine thenE_ret ?_
            refine ends1 (v := .bool _) Try.results30 rfl ?_
            refine ⟨congrArg (fun b => Ending.returned (Value.bool b)) ?_, H.fr⟩
            clear H
            unfold gameRight
            first
              | rw [hno, Bool.false_and, Bool.and_false, Bool.and_false, Bool.and_false]
              | (rw [hall2, hi, decide_eq_true g1, decide_eq_true g2, decide_eq_true g3, decide_eq_true g4, decide_eq_true g5, decide_eq_true g6]; rfl)
              | rw [decide_eq_false (show ¬ (1 ≤ g.obs) by omega), Bool.false_and, Bool.false_and]
              | rw [decide_eq_false (show ¬ (g.obs ≤ 32) by omega), Bool.and_false, Bool.false_and]
              | rw [decide_eq_false (show ¬ (1 ≤ g.pl) by omega), Bool.false_and, Bool.false_and, Bool.and_false]
              | rw [decide_eq_false (show ¬ (g.pl ≤ min 6 g.obs) by omega), Bool.and_false, Bool.false_and, Bool.and_false]
              | rw [decide_eq_false (show ¬ (g.dflt < g.moves) by omega), Bool.false_and, Bool.false_and, Bool.and_false, Bool.and_false]
              | rw [decide_eq_false (show ¬ (g.cells.length ≤ 48) by omega), Bool.and_false, Bool.false_and, Bool.and_false, Bool.and_false]
          · refine WL_guard_yes rfl rfl rfl ?_
            refine WL_x (x_fieldAddr (n := 0) (o' := 1) Try.underlying49 rfl (by kernel_rfl) rfl rfl) ?_
            refine WL_guard_yes rfl rfl rfl ?_
            first | refine WL_x (x_load (v := .int .i64 _) Try.underlying3 rfl rfl (H.cellAt .zero rfl)) ?_ | refine WL_x (x_load (v := .int .i64 _) Try.underlying3 rfl rfl (H.cellAt (.succ .zero) rfl)) ?_ | refine WL_x (x_load (v := .int .i64 _) Try.underlying3 rfl rfl (H.cellAt (.succ (.succ .zero)) rfl)) ?_ | refine WL_x (x_load (v := .int .i64 _) Try.underlying3 rfl rfl (H.cellAt (.succ (.succ (.succ .zero))) rfl)) ?_ | refine WL_x (x_load (v := .int .i64 _) Try.underlying3 rfl rfl (H.cellAt (.succ (.succ (.succ (.succ .zero)))) rfl)) ?_ | refine WL_x (x_load Try.underlying3 rfl rfl (H.rnum .zero (by omega) (by omega))) ?_ | refine WL_x (x_load Try.underlying3 rfl rfl (H.rnum (.succ .zero) (by omega) (by omega))) ?_ | refine WL_x (x_load Try.underlying3 rfl rfl (H.rnum (.succ (.succ .zero)) (by omega) (by omega))) ?_ | refine WL_x (x_load Try.underlying3 rfl rfl (H.onum .zero (by omega) (by omega))) ?_ | refine WL_x (x_load Try.underlying3 rfl rfl (H.onum (.succ .zero) (by omega) (by omega))) ?_ | refine WL_x (x_load Try.underlying3 rfl rfl (H.onum (.succ (.succ .zero)) (by omega) (by omega))) ?_
            refine WL_guard_yes rfl rfl rfl ?_
            refine WL_x (x_fieldAddr (n := 0) (o' := 0) Try.underlying49 rfl (by kernel_rfl) rfl rfl) ?_
            refine WL_guard_yes rfl rfl rfl ?_
            first | refine WL_x (x_load (v := .int .i64 _) Try.underlying3 rfl rfl (H.cellAt .zero rfl)) ?_ | refine WL_x (x_load (v := .int .i64 _) Try.underlying3 rfl rfl (H.cellAt (.succ .zero) rfl)) ?_ | refine WL_x (x_load (v := .int .i64 _) Try.underlying3 rfl rfl (H.cellAt (.succ (.succ .zero)) rfl)) ?_ | refine WL_x (x_load (v := .int .i64 _) Try.underlying3 rfl rfl (H.cellAt (.succ (.succ (.succ .zero))) rfl)) ?_ | refine WL_x (x_load (v := .int .i64 _) Try.underlying3 rfl rfl (H.cellAt (.succ (.succ (.succ (.succ .zero)))) rfl)) ?_ | refine WL_x (x_load Try.underlying3 rfl rfl (H.rnum .zero (by omega) (by omega))) ?_ | refine WL_x (x_load Try.underlying3 rfl rfl (H.rnum (.succ .zero) (by omega) (by omega))) ?_ | refine WL_x (x_load Try.underlying3 rfl rfl (H.rnum (.succ (.succ .zero)) (by omega) (by omega))) ?_ | refine WL_x (x_load Try.underlying3 rfl rfl (H.onum .zero (by omega) (by omega))) ?_ | refine WL_x (x_load Try.underlying3 rfl rfl (H.onum (.succ .zero) (by omega) (by omega))) ?_ | refine WL_x (x_load Try.underlying3 rfl rfl (H.onum (.succ (.succ .zero)) (by omega) (by omega))) ?_
            refine WL_guard_yes rfl rfl rfl ?_
            refine WL_x (x_binop rfl rfl (r_gtr _ _ _ _)) ?_
            refine WL_x (x_pick (v := .bool _) rfl rfl) ?_
            refine WL_x (x_move (v := .bool _) rfl) ?_
            first | refine WL_cased (t := 30) rfl (fun h30 => ?_) (fun h30 => ?_) | refine WL_casen (t := 30) rfl (fun h30 => ?_) (fun h30 => ?_) | refine WL_case (t := 30) rfl (fun h30 => ?_) (fun h30 => ?_)
            · refine WL_guard_no rfl rfl rfl ?_
              refine WL_guard_no rfl rfl rfl ?_
              refine WL_guard_no rfl rfl rfl ?_
              refine WL_guard_no rfl rfl rfl ?_
              refine WL_guard_no rfl rfl rfl ?_
              refine WL_x (x_pick (v := .bool _) rfl rfl) ?_
              refine WL_x (x_move (v := .bool _) rfl) ?_
              refine WL_guard_no rfl rfl rfl ?_
              refine WL_guard_no rfl rfl rfl ?_
              refine WL_guard_no rfl rfl rfl ?_
              refine WL_guard_no rfl rfl rfl ?_
              refine WL_x (x_pick (v := .bool _) rfl rfl) ?_
              refine WL_nil ?_
              refine thenE_normal ?_
              refine WC_yes rfl ?_
              refine WC_seq ?_
              refine WC_region ?_
              refine WL_x (x_assign (v := (.bool false)) rfl) ?_
              refine WL_nil ?_
              refine thenE_normal ?_
              refine WC_ret ?_
              refine thenE_ret ?_
              refine ends1 (v := .bool _) Try.results30 rfl ?_
              refine ⟨congrArg (fun b => Ending.returned (Value.bool b)) ?_, H.fr⟩
              clear H
              unfold gameRight
              first
                | rw [hno, Bool.false_and, Bool.and_false, Bool.and_false, Bool.and_false]
                | (rw [hall2, hi, decide_eq_true g1, decide_eq_true g2, decide_eq_true g3, decide_eq_true g4, decide_eq_true g5, decide_eq_true g6]; rfl)
                | rw [decide_eq_false (show ¬ (1 ≤ g.obs) by omega), Bool.false_and, Bool.false_and]
                | rw [decide_eq_false (show ¬ (g.obs ≤ 32) by omega), Bool.and_false, Bool.false_and]
                | rw [decide_eq_false (show ¬ (1 ≤ g.pl) by omega), Bool.false_and, Bool.false_and, Bool.and_false]
                | rw [decide_eq_false (show ¬ (g.pl ≤ min 6 g.obs) by omega), Bool.and_false, Bool.false_and, Bool.and_false]
                | rw [decide_eq_false (show ¬ (g.dflt < g.moves) by omega), Bool.false_and, Bool.false_and, Bool.and_false, Bool.and_false]
                | rw [decide_eq_false (show ¬ (g.cells.length ≤ 48) by omega), Bool.and_false, Bool.false_and, Bool.and_false, Bool.and_false]
            · refine WL_guard_yes rfl rfl rfl ?_
              refine WL_x (x_fieldAddr (n := 0) (o' := 2) Try.underlying49 rfl (by kernel_rfl) rfl rfl) ?_
              refine WL_guard_yes rfl rfl rfl ?_
              first | refine WL_x (x_load (v := .int .u32 _) Try.underlying22 rfl rfl (H.cellAt .zero rfl)) ?_ | refine WL_x (x_load (v := .int .u32 _) Try.underlying22 rfl rfl (H.cellAt (.succ .zero) rfl)) ?_ | refine WL_x (x_load (v := .int .u32 _) Try.underlying22 rfl rfl (H.cellAt (.succ (.succ .zero)) rfl)) ?_ | refine WL_x (x_load (v := .int .u32 _) Try.underlying22 rfl rfl (H.cellAt (.succ (.succ (.succ .zero))) rfl)) ?_ | refine WL_x (x_load (v := .int .u32 _) Try.underlying22 rfl rfl (H.cellAt (.succ (.succ (.succ (.succ .zero)))) rfl)) ?_ | refine WL_x (x_load Try.underlying22 rfl rfl (H.rnum .zero (by omega) (by omega))) ?_ | refine WL_x (x_load Try.underlying22 rfl rfl (H.rnum (.succ .zero) (by omega) (by omega))) ?_ | refine WL_x (x_load Try.underlying22 rfl rfl (H.rnum (.succ (.succ .zero)) (by omega) (by omega))) ?_ | refine WL_x (x_load Try.underlying22 rfl rfl (H.onum .zero (by omega) (by omega))) ?_ | refine WL_x (x_load Try.underlying22 rfl rfl (H.onum (.succ .zero) (by omega) (by omega))) ?_ | refine WL_x (x_load Try.underlying22 rfl rfl (H.onum (.succ (.succ .zero)) (by omega) (by omega))) ?_
              refine WL_guard_yes rfl rfl rfl ?_
              refine WL_x (x_fieldAddr (n := 0) (o' := 3) Try.underlying49 rfl (by kernel_rfl) rfl rfl) ?_
              refine WL_guard_yes rfl rfl rfl ?_
              first | refine WL_x (x_load (v := .int .u32 _) Try.underlying22 rfl rfl (H.cellAt .zero rfl)) ?_ | refine WL_x (x_load (v := .int .u32 _) Try.underlying22 rfl rfl (H.cellAt (.succ .zero) rfl)) ?_ | refine WL_x (x_load (v := .int .u32 _) Try.underlying22 rfl rfl (H.cellAt (.succ (.succ .zero)) rfl)) ?_ | refine WL_x (x_load (v := .int .u32 _) Try.underlying22 rfl rfl (H.cellAt (.succ (.succ (.succ .zero))) rfl)) ?_ | refine WL_x (x_load (v := .int .u32 _) Try.underlying22 rfl rfl (H.cellAt (.succ (.succ (.succ (.succ .zero)))) rfl)) ?_ | refine WL_x (x_load Try.underlying22 rfl rfl (H.rnum .zero (by omega) (by omega))) ?_ | refine WL_x (x_load Try.underlying22 rfl rfl (H.rnum (.succ .zero) (by omega) (by omega))) ?_ | refine WL_x (x_load Try.underlying22 rfl rfl (H.rnum (.succ (.succ .zero)) (by omega) (by omega))) ?_ | refine WL_x (x_load Try.underlying22 rfl rfl (H.onum .zero (by omega) (by omega))) ?_ | refine WL_x (x_load Try.underlying22 rfl rfl (H.onum (.succ .zero) (by omega) (by omega))) ?_ | refine WL_x (x_load Try.underlying22 rfl rfl (H.onum (.succ (.succ .zero)) (by omega) (by omega))) ?_
              refine WL_guard_yes rfl rfl rfl ?_
              refine WL_x (x_binop rfl rfl (r_leq _ _ _ _)) ?_
              refine WL_x (x_pick (v := .bool _) rfl rfl) ?_
              refine WL_x (x_move (v := .bool _) rfl) ?_
              first | refine WL_cased (t := 37) rfl (fun h37 => ?_) (fun h37 => ?_) | refine WL_casen (t := 37) rfl (fun h37 => ?_) (fun h37 => ?_) | refine WL_case (t := 37) rfl (fun h37 => ?_) (fun h37 => ?_)
              · refine WL_guard_no rfl rfl rfl ?_
                refine WL_guard_no rfl rfl rfl ?_
                refine WL_guard_no rfl rfl rfl ?_
                refine WL_guard_no rfl rfl rfl ?_
                refine WL_x (x_pick (v := .bool _) rfl rfl) ?_
                refine WL_nil ?_
                refine thenE_normal ?_
                refine WC_yes rfl ?_
                refine WC_seq ?_
                refine WC_region ?_
                refine WL_x (x_assign (v := (.bool false)) rfl) ?_
                refine WL_nil ?_
                refine thenE_normal ?_
                refine WC_ret ?_
                refine thenE_ret ?_
                refine ends1 (v := .bool _) Try.results30 rfl ?_
                refine ⟨congrArg (fun b => Ending.returned (Value.bool b)) ?_, H.fr⟩
                clear H
                unfold gameRight
                first
                  | rw [hno, Bool.false_and, Bool.and_false, Bool.and_false, Bool.and_false]
                  | (rw [hall2, hi, decide_eq_true g1, decide_eq_true g2, decide_eq_true g3, decide_eq_true g4, decide_eq_true g5, decide_eq_true g6]; rfl)
                  | rw [decide_eq_false (show ¬ (1 ≤ g.obs) by omega), Bool.false_and, Bool.false_and]
                  | rw [decide_eq_false (show ¬ (g.obs ≤ 32) by omega), Bool.and_false, Bool.false_and]
                  | rw [decide_eq_false (show ¬ (1 ≤ g.pl) by omega), Bool.false_and, Bool.false_and, Bool.and_false]
                  | rw [decide_eq_false (show ¬ (g.pl ≤ min 6 g.obs) by omega), Bool.and_false, Bool.false_and, Bool.and_false]
                  | rw [decide_eq_false (show ¬ (g.dflt < g.moves) by omega), Bool.false_and, Bool.false_and, Bool.and_false, Bool.and_false]
                  | rw [decide_eq_false (show ¬ (g.cells.length ≤ 48) by omega), Bool.and_false, Bool.false_and, Bool.and_false, Bool.and_false]
              · refine WL_guard_yes rfl rfl rfl ?_
                refine WL_x (x_fieldAddr (n := 0) (o' := 4) Try.underlying49 rfl (by kernel_rfl) rfl rfl) ?_
                refine WL_guard_yes rfl rfl rfl ?_
                first | refine WL_x (x_load (v := .slice _ _ _) Try.underlying46 rfl rfl (H.cellAt .zero rfl)) ?_ | refine WL_x (x_load (v := .slice _ _ _) Try.underlying46 rfl rfl (H.cellAt (.succ .zero) rfl)) ?_ | refine WL_x (x_load (v := .slice _ _ _) Try.underlying46 rfl rfl (H.cellAt (.succ (.succ .zero)) rfl)) ?_ | refine WL_x (x_load (v := .slice _ _ _) Try.underlying46 rfl rfl (H.cellAt (.succ (.succ (.succ .zero))) rfl)) ?_ | refine WL_x (x_load (v := .slice _ _ _) Try.underlying46 rfl rfl (H.cellAt (.succ (.succ (.succ (.succ .zero)))) rfl)) ?_
                refine WL_guard_yes rfl rfl rfl ?_
                refine WL_x (x_len Try.underlying46 rfl) ?_
                refine WL_guard_yes rfl rfl rfl ?_
                refine WL_x (x_binop rfl rfl (r_gtr _ _ _ _)) ?_
                refine WL_x (x_pick (v := .bool _) rfl rfl) ?_
                refine WL_nil ?_
                refine thenE_normal ?_
                refine WC_ifd rfl (fun h42 => ?_) (fun h42 => ?_)
                · refine WC_seq ?_
                  refine WC_region ?_
                  refine WL_x (x_assign (v := (.bool false)) rfl) ?_
                  refine WL_nil ?_
                  refine thenE_normal ?_
                  refine WC_ret ?_
                  refine thenE_ret ?_
                  refine ends1 (v := .bool _) Try.results30 rfl ?_
                  refine ⟨congrArg (fun b => Ending.returned (Value.bool b)) ?_, H.fr⟩
                  clear H
                  unfold gameRight
                  first
                    | rw [hno, Bool.false_and, Bool.and_false, Bool.and_false, Bool.and_false]
                    | (rw [hall2, hi, decide_eq_true g1, decide_eq_true g2, decide_eq_true g3, decide_eq_true g4, decide_eq_true g5, decide_eq_true g6]; rfl)
                    | rw [decide_eq_false (show ¬ (1 ≤ g.obs) by omega), Bool.false_and, Bool.false_and]
                    | rw [decide_eq_false (show ¬ (g.obs ≤ 32) by omega), Bool.and_false, Bool.false_and]
                    | rw [decide_eq_false (show ¬ (1 ≤ g.pl) by omega), Bool.false_and, Bool.false_and, Bool.and_false]
                    | rw [decide_eq_false (show ¬ (g.pl ≤ min 6 g.obs) by omega), Bool.and_false, Bool.false_and, Bool.and_false]
                    | rw [decide_eq_false (show ¬ (g.dflt < g.moves) by omega), Bool.false_and, Bool.false_and, Bool.and_false, Bool.and_false]
                    | rw [decide_eq_false (show ¬ (g.cells.length ≤ 48) by omega), Bool.and_false, Bool.false_and, Bool.and_false, Bool.and_false]
                · refine WC_skip ?_
                  refine thenE_normal ?_
                  exact ⟨(), by omega, rfl, H⟩
  · clear H
    rintro _ f w ⟨hgood, h1, H⟩
    rw [← upd_self h1]
    obtain ⟨⟨g1, g2⟩, ⟨g3, g4⟩, g5, g6⟩ := hgood
    refine WC_seq ?_
    refine WC_seq ?_
    refine WC_region ?_
    refine WL_x (x_fieldAddr (n := 0) (o' := 4) Try.underlying49 rfl (by kernel_rfl) rfl rfl) ?_
    first | refine WL_x (x_load (v := .slice _ _ _) Try.underlying46 rfl rfl (H.cellAt .zero rfl)) ?_ | refine WL_x (x_load (v := .slice _ _ _) Try.underlying46 rfl rfl (H.cellAt (.succ .zero) rfl)) ?_ | refine WL_x (x_load (v := .slice _ _ _) Try.underlying46 rfl rfl (H.cellAt (.succ (.succ .zero)) rfl)) ?_ | refine WL_x (x_load (v := .slice _ _ _) Try.underlying46 rfl rfl (H.cellAt (.succ (.succ (.succ .zero))) rfl)) ?_ | refine WL_x (x_load (v := .slice _ _ _) Try.underlying46 rfl rfl (H.cellAt (.succ (.succ (.succ (.succ .zero)))) rfl)) ?_
    refine WL_x (x_len Try.underlying46 rfl) ?_
    refine WL_x (x_move (v := (.int .i64 0)) rfl) ?_
    refine WL_nil ?_
    refine thenE_normal ?_
    refine WC_block ?_
    refine WC_while (fun (k : Nat) f w' => k ≤ g.cells.length ∧ (g.cells.take k).all (fun c => decide (bits .andNot .u32 c.s (allM g.obs) = 0)) = true ∧ f 46 = .int .i64 k ∧ f 45 = .int .i64 g.cells.length ∧ f 44 = .slice A g.cells.length ca ∧ f 1 = .pointer (some ⟨b1, 0, none⟩) ∧ St W [] [blk b1 (g.val A ca B cb) 49] [Go.HW.cells A (encs Cel.enc g.cells), Go.HW.cells B (encs Cd.enc g.code)] w') (fun k => g.cells.length - k) (s0 := 0) ?_ ?_
    · exact ⟨Nat.zero_le _, by simp, rfl, rfl, rfl, rfl, H⟩
    · clear H
      rintro k f w ⟨hk, hall, h46, h45, h44, h1, H⟩
      rw [← upd_self h46, ← upd_self h45, ← upd_self h44, ← upd_self h1]
      refine WC_seq ?_
      refine WC_region ?_
      refine WL_x (x_binop rfl rfl (r_lss _ _ _ _)) ?_
      refine WL_nil ?_
      refine thenE_normal ?_
      refine WC_seq ?_
      refine WC_ifd rfl (fun h47 => ?_) (fun h47 => ?_)
      · have hk47 : k < g.cells.length := by omega
        refine WC_skip ?_
        refine thenE_normal ?_
        refine WC_seq ?_
        refine WC_block ?_
        refine WC_seq ?_
        refine WC_region ?_
        refine WL_x (x_indexAddr (s := 2) Try.underlying46 (by kernel_rfl) rfl rfl (by omega) (by omega) (H.rsome (l := encs Cel.enc g.cells) .zero (by rw [encs_length Cel.enc Cel.len]; omega)) rfl) ?_
        refine WL_x (x_loadA (n := 2) (vs := (g.cells[k]).enc) Try.underlying77 rfl (by kernel_rfl) rfl rfl (H.rrange (k := 2) .zero (by rw [Int.toNat_natCast]; exact encs_get Cel.enc Cel.len g.cells k hk47))) ?_
        refine WL_alloc (l := [(.int .i32 0), (.int .u32 0)]) (by kernel_rfl) H ?_
        clear H; intro b4 w H
        first | refine WL_storeA rfl rfl rfl (by kernel_rfl) H .zero (Nat.le_of_ble_eq_true rfl) (splice_all _ _ rfl) ?_ | refine WL_storeA rfl rfl rfl (by kernel_rfl) H (.succ .zero) (Nat.le_of_ble_eq_true rfl) (splice_all _ _ rfl) ?_ | refine WL_storeA rfl rfl rfl (by kernel_rfl) H (.succ (.succ .zero)) (Nat.le_of_ble_eq_true rfl) (splice_all _ _ rfl) ?_ | refine WL_storeA rfl rfl rfl (by kernel_rfl) H (.succ (.succ (.succ .zero))) (Nat.le_of_ble_eq_true rfl) (splice_all _ _ rfl) ?_ | refine WL_storeA rfl rfl rfl (by kernel_rfl) H (.succ (.succ (.succ (.succ .zero)))) (Nat.le_of_ble_eq_true rfl) (splice_all _ _ rfl) ?_
        clear H; intro w H
        refine WL_nil ?_
        refine thenE_normal ?_
        refine WC_seq ?_
        refine WC_drawH (m := 7) (listed := [false, false, false, false, false, false, false]) 7 (by kernel_rfl) rfl rfl H ?_
        intro w H
        refine WG_take (i := 0) (listed' := [true, false, false, false, false, false, false]) rfl (by kernel_rfl) (fun w H => x_fieldAddr (n := 0) (o' := 1) Try.underlying77 rfl (by kernel_rfl) rfl rfl) H rfl ?_
        first | refine WG_take (i := 1) (listed' := [true, true, false, false, false, false, false]) rfl (by kernel_rfl) (fun w H => x_load (v := .int .u32 _) Try.underlying22 rfl rfl (H.cellAt .zero rfl)) H rfl ?_ | refine WG_take (i := 1) (listed' := [true, true, false, false, false, false, false]) rfl (by kernel_rfl) (fun w H => x_load (v := .int .u32 _) Try.underlying22 rfl rfl (H.cellAt (.succ .zero) rfl)) H rfl ?_ | refine WG_take (i := 1) (listed' := [true, true, false, false, false, false, false]) rfl (by kernel_rfl) (fun w H => x_load (v := .int .u32 _) Try.underlying22 rfl rfl (H.cellAt (.succ (.succ .zero)) rfl)) H rfl ?_ | refine WG_take (i := 1) (listed' := [true, true, false, false, false, false, false]) rfl (by kernel_rfl) (fun w H => x_load (v := .int .u32 _) Try.underlying22 rfl rfl (H.cellAt (.succ (.succ (.succ .zero))) rfl)) H rfl ?_ | refine WG_take (i := 1) (listed' := [true, true, false, false, false, false, false]) rfl (by kernel_rfl) (fun w H => x_load (v := .int .u32 _) Try.underlying22 rfl rfl (H.cellAt (.succ (.succ (.succ (.succ .zero)))) rfl)) H rfl ?_ | refine WG_take (i := 1) (listed' := [true, true, false, false, false, false, false]) rfl (by kernel_rfl) (fun w H => x_load Try.underlying22 rfl rfl (H.rnum .zero (by omega) (by omega))) H rfl ?_ | refine WG_take (i := 1) (listed' := [true, true, false, false, false, false, false]) rfl (by kernel_rfl) (fun w H => x_load Try.underlying22 rfl rfl (H.rnum (.succ .zero) (by omega) (by omega))) H rfl ?_ | refine WG_take (i := 1) (listed' := [true, true, false, false, false, false, false]) rfl (by kernel_rfl) (fun w H => x_load Try.underlying22 rfl rfl (H.rnum (.succ (.succ .zero)) (by omega) (by omega))) H rfl ?_ | refine WG_take (i := 1) (listed' := [true, true, false, false, false, false, false]) rfl (by kernel_rfl) (fun w H => x_load Try.underlying22 rfl rfl (H.onum .zero (by omega) (by omega))) H rfl ?_ | refine WG_take (i := 1) (listed' := [true, true, false, false, false, false, false]) rfl (by kernel_rfl) (fun w H => x_load Try.underlying22 rfl rfl (H.onum (.succ .zero) (by omega) (by omega))) H rfl ?_ | refine WG_take (i := 1) (listed' := [true, true, false, false, false, false, false]) rfl (by kernel_rfl) (fun w H => x_load Try.underlying22 rfl rfl (H.onum (.succ (.succ .zero)) (by omega) (by omega))) H rfl ?_
        refine WG_take (i := 2) (listed' := [true, true, true, false, false, false, false]) rfl (by kernel_rfl) (fun w H => x_fieldAddr (n := 0) (o' := 0) Try.underlying49 rfl (by kernel_rfl) rfl rfl) H rfl ?_
        first | refine WG_take (i := 3) (listed' := [true, true, true, true, false, false, false]) rfl (by kernel_rfl) (fun w H => x_load (v := .int .i64 _) Try.underlying3 rfl rfl (H.cellAt .zero rfl)) H rfl ?_ | refine WG_take (i := 3) (listed' := [true, true, true, true, false, false, false]) rfl (by kernel_rfl) (fun w H => x_load (v := .int .i64 _) Try.underlying3 rfl rfl (H.cellAt (.succ .zero) rfl)) H rfl ?_ | refine WG_take (i := 3) (listed' := [true, true, true, true, false, false, false]) rfl (by kernel_rfl) (fun w H => x_load (v := .int .i64 _) Try.underlying3 rfl rfl (H.cellAt (.succ (.succ .zero)) rfl)) H rfl ?_ | refine WG_take (i := 3) (listed' := [true, true, true, true, false, false, false]) rfl (by kernel_rfl) (fun w H => x_load (v := .int .i64 _) Try.underlying3 rfl rfl (H.cellAt (.succ (.succ (.succ .zero))) rfl)) H rfl ?_ | refine WG_take (i := 3) (listed' := [true, true, true, true, false, false, false]) rfl (by kernel_rfl) (fun w H => x_load (v := .int .i64 _) Try.underlying3 rfl rfl (H.cellAt (.succ (.succ (.succ (.succ .zero)))) rfl)) H rfl ?_ | refine WG_take (i := 3) (listed' := [true, true, true, true, false, false, false]) rfl (by kernel_rfl) (fun w H => x_load Try.underlying3 rfl rfl (H.rnum .zero (by omega) (by omega))) H rfl ?_ | refine WG_take (i := 3) (listed' := [true, true, true, true, false, false, false]) rfl (by kernel_rfl) (fun w H => x_load Try.underlying3 rfl rfl (H.rnum (.succ .zero) (by omega) (by omega))) H rfl ?_ | refine WG_take (i := 3) (listed' := [true, true, true, true, false, false, false]) rfl (by kernel_rfl) (fun w H => x_load Try.underlying3 rfl rfl (H.rnum (.succ (.succ .zero)) (by omega) (by omega))) H rfl ?_ | refine WG_take (i := 3) (listed' := [true, true, true, true, false, false, false]) rfl (by kernel_rfl) (fun w H => x_load Try.underlying3 rfl rfl (H.onum .zero (by omega) (by omega))) H rfl ?_ | refine WG_take (i := 3) (listed' := [true, true, true, true, false, false, false]) rfl (by kernel_rfl) (fun w H => x_load Try.underlying3 rfl rfl (H.onum (.succ .zero) (by omega) (by omega))) H rfl ?_ | refine WG_take (i := 3) (listed' := [true, true, true, true, false, false, false]) rfl (by kernel_rfl) (fun w H => x_load Try.underlying3 rfl rfl (H.onum (.succ (.succ .zero)) (by omega) (by omega))) H rfl ?_
        refine WG_mid (i := 4) (listed' := [true, true, true, true, true, false, false]) rfl rfl (by kernel_rfl) rfl rfl ?_
        refine WL_call (vs := [.int .i64 _]) Try.func37 rfl rfl rfl (rall_ok _ _ ⟨hg.obs0, hg.obs1⟩) ?_
        rintro _ w ⟨rfl, hf⟩
        refine ⟨_, rfl, ?_⟩
        replace H := H.quiet hf
        have hbr : 0 ≤ bits .andNot .u32 (g.cells[k]).s (allM g.obs) := (u32w_range _).1
        refine WL_nil ?_
        refine mid_mk H ?_
        refine WG_take (i := 5) (listed' := [true, true, true, true, true, true, false]) rfl (by kernel_rfl) (fun w H => x_binop rfl rfl (r_andNot _ _ _ _)) H rfl ?_
        refine WG_take (i := 6) (listed' := [true, true, true, true, true, true, true]) rfl (by kernel_rfl) (fun w H => x_binop rfl rfl (r_gtr _ _ _ _)) H rfl ?_
        refine WG_done (by kernel_rfl) ?_
        refine thenE_normal ?_
        refine WC_ifd rfl (fun h56 => ?_) (fun h56 => ?_)
        · have hno : g.cells.all (fun c => decide (bits .andNot .u32 c.s (allM g.obs) = 0)) = false := List.all_eq_false.2 ⟨g.cells[k], List.getElem_mem _, by simp only [decide_eq_true_eq]; omega⟩
          refine WC_seq ?_
          refine WC_region ?_
          refine WL_x (x_assign (v := (.bool false)) rfl) ?_
          refine WL_nil ?_
          refine thenE_normal ?_
          refine WC_ret ?_
          refine inBlockE_ret ?_
          refine thenE_ret ?_
          refine thenE_ret ?_
          refine inBlockE_ret ?_
          refine thenE_ret ?_
          refine ends1 (v := .bool _) Try.results30 rfl ?_
          refine ⟨congrArg (fun b => Ending.returned (Value.bool b)) ?_, H.fr⟩
          clear H
          unfold gameRight
          first
            | rw [hno, Bool.false_and, Bool.and_false, Bool.and_false, Bool.and_false]
            | (rw [hall2, hi, decide_eq_true g1, decide_eq_true g2, decide_eq_true g3, decide_eq_true g4, decide_eq_true g5, decide_eq_true g6]; rfl)
            | rw [decide_eq_false (show ¬ (1 ≤ g.obs) by omega), Bool.false_and, Bool.false_and]
            | rw [decide_eq_false (show ¬ (g.obs ≤ 32) by omega), Bool.and_false, Bool.false_and]
            | rw [decide_eq_false (show ¬ (1 ≤ g.pl) by omega), Bool.false_and, Bool.false_and, Bool.and_false]
            | rw [decide_eq_false (show ¬ (g.pl ≤ min 6 g.obs) by omega), Bool.and_false, Bool.false_and, Bool.and_false]
            | rw [decide_eq_false (show ¬ (g.dflt < g.moves) by omega), Bool.false_and, Bool.false_and, Bool.and_false, Bool.and_false]
            | rw [decide_eq_false (show ¬ (g.cells.length ≤ 48) by omega), Bool.and_false, Bool.false_and, Bool.and_false, Bool.and_false]
        · refine WC_skip ?_
          refine inBlockE_normal ?_
          refine thenE_normal ?_
          refine WC_region ?_
          refine WL_x (x_binop rfl rfl (r_add_in (i64_in (by omega) (by omega)))) ?_
          refine WL_x (x_move (v := .int .i64 _) rfl) ?_
          refine WL_nil ?_
          refine thenE_normal ?_
          refine ⟨k + 1, ⟨by omega, ?_, by simp [upd], rfl, rfl, rfl, H.drop (by simp) (by simp)⟩, by omega⟩
          rw [List.take_succ_eq_append_getElem hk47, List.all_append, hall]
          simp only [List.all_cons, List.all_nil, Bool.and_true, Bool.true_and, decide_eq_true_eq]
          omega
      · have hall2 : g.cells.all (fun c => decide (bits .andNot .u32 c.s (allM g.obs) = 0)) = true := by rw [← hall, List.take_of_length_le (by omega)]
        refine WC_exit ?_
        refine thenE_exit ?_
        refine thenE_exit ?_
        refine inBlockE_exit ?_
        refine thenE_normal ?_
        refine WC_seq ?_
        refine WC_region ?_
        refine WL_x (x_fieldAddr (n := 0) (o' := 5) Try.underlying49 rfl (by kernel_rfl) rfl rfl) ?_
        first | refine WL_x (x_load (v := .slice _ _ _) Try.underlying47 rfl rfl (H.cellAt .zero rfl)) ?_ | refine WL_x (x_load (v := .slice _ _ _) Try.underlying47 rfl rfl (H.cellAt (.succ .zero) rfl)) ?_ | refine WL_x (x_load (v := .slice _ _ _) Try.underlying47 rfl rfl (H.cellAt (.succ (.succ .zero)) rfl)) ?_ | refine WL_x (x_load (v := .slice _ _ _) Try.underlying47 rfl rfl (H.cellAt (.succ (.succ (.succ .zero))) rfl)) ?_ | refine WL_x (x_load (v := .slice _ _ _) Try.underlying47 rfl rfl (H.cellAt (.succ (.succ (.succ (.succ .zero)))) rfl)) ?_
        refine WL_x (x_fieldAddr (n := 0) (o' := 4) Try.underlying49 rfl (by kernel_rfl) rfl rfl) ?_
        first | refine WL_x (x_load (v := .slice _ _ _) Try.underlying46 rfl rfl (H.cellAt .zero rfl)) ?_ | refine WL_x (x_load (v := .slice _ _ _) Try.underlying46 rfl rfl (H.cellAt (.succ .zero) rfl)) ?_ | refine WL_x (x_load (v := .slice _ _ _) Try.underlying46 rfl rfl (H.cellAt (.succ (.succ .zero)) rfl)) ?_ | refine WL_x (x_load (v := .slice _ _ _) Try.underlying46 rfl rfl (H.cellAt (.succ (.succ (.succ .zero))) rfl)) ?_ | refine WL_x (x_load (v := .slice _ _ _) Try.underlying46 rfl rfl (H.cellAt (.succ (.succ (.succ (.succ .zero)))) rfl)) ?_
        refine WL_x (x_len Try.underlying46 rfl) ?_
        refine WL_x (x_fieldAddr (n := 0) (o' := 1) Try.underlying49 rfl (by kernel_rfl) rfl rfl) ?_
        first | refine WL_x (x_load (v := .int .i64 _) Try.underlying3 rfl rfl (H.cellAt .zero rfl)) ?_ | refine WL_x (x_load (v := .int .i64 _) Try.underlying3 rfl rfl (H.cellAt (.succ .zero) rfl)) ?_ | refine WL_x (x_load (v := .int .i64 _) Try.underlying3 rfl rfl (H.cellAt (.succ (.succ .zero)) rfl)) ?_ | refine WL_x (x_load (v := .int .i64 _) Try.underlying3 rfl rfl (H.cellAt (.succ (.succ (.succ .zero))) rfl)) ?_ | refine WL_x (x_load (v := .int .i64 _) Try.underlying3 rfl rfl (H.cellAt (.succ (.succ (.succ (.succ .zero)))) rfl)) ?_ | refine WL_x (x_load Try.underlying3 rfl rfl (H.rnum .zero (by omega) (by omega))) ?_ | refine WL_x (x_load Try.underlying3 rfl rfl (H.rnum (.succ .zero) (by omega) (by omega))) ?_ | refine WL_x (x_load Try.underlying3 rfl rfl (H.rnum (.succ (.succ .zero)) (by omega) (by omega))) ?_ | refine WL_x (x_load Try.underlying3 rfl rfl (H.onum .zero (by omega) (by omega))) ?_ | refine WL_x (x_load Try.underlying3 rfl rfl (H.onum (.succ .zero) (by omega) (by omega))) ?_ | refine WL_x (x_load Try.underlying3 rfl rfl (H.onum (.succ (.succ .zero)) (by omega) (by omega))) ?_
        refine WL_call (vs := [.slice _ _ _, .int .i64 _, .int .i64 _]) Try.func38 rfl rfl rfl (rcheck_ok _ g.code B _ _ _ (H.rget (Has.mem (.succ .zero))) hg.nd hg.code (by omega)) ?_
        rintro _ w ⟨i, rfl, hi, hf⟩
        refine ⟨_, rfl, ?_⟩
        replace H := H.quiet hf
        refine WL_x (x_binop rfl rfl (r_lss _ _ _ _)) ?_
        refine WL_x (x_assign (v := .bool _) rfl) ?_
        refine WL_nil ?_
        refine thenE_normal ?_
        refine WC_ret ?_
        refine ends1 (v := .bool _) Try.results30 rfl ?_
        refine ⟨congrArg (fun b => Ending.returned (Value.bool b)) ?_, H.fr⟩
        clear H
        unfold gameRight
        first
          | rw [hno, Bool.false_and, Bool.and_false, Bool.and_false, Bool.and_false]
          | (rw [hall2, hi, decide_eq_true g1, decide_eq_true g2, decide_eq_true g3, decide_eq_true g4, decide_eq_true g5, decide_eq_true g6]; rfl)
          | rw [decide_eq_false (show ¬ (1 ≤ g.obs) by omega), Bool.false_and, Bool.false_and]
          | rw [decide_eq_false (show ¬ (g.obs ≤ 32) by omega), Bool.and_false, Bool.false_and]
          | rw [decide_eq_false (show ¬ (1 ≤ g.pl) by omega), Bool.false_and, Bool.false_and, Bool.and_false]
          | rw [decide_eq_false (show ¬ (g.pl ≤ min 6 g.obs) by omega), Bool.and_false, Bool.false_and, Bool.and_false]
          | rw [decide_eq_false (show ¬ (g.dflt < g.moves) by omega), Bool.false_and, Bool.false_and, Bool.and_false, Bool.and_false]
          | rw [decide_eq_false (show ¬ (g.cells.length ≤ 48) by omega), Bool.and_false, Bool.false_and, Bool.and_false, Bool.and_false]
end Go.Proofs.Ytecdgmdkepiopaa
