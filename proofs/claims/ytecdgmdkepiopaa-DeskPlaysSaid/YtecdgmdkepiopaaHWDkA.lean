import Derived.Test.YtecdgmdkepiopaaHWMap
import Derived.Test.YtecdgmdkepiopaaHWOpen
import Derived.Test.YtecdgmdkepiopaaProg
import Derived.KernelRfl
set_option linter.unusedSimpArgs false
set_option linter.unusedVariables false
set_option linter.unusedSectionVars false
namespace Go.Proofs.Ytecdgmdkepiopaa
open Go Go.HW Go.RowKit
attribute [local irreducible] WL WC WG wpList Code.wp


/-! ### code -/
structure Use where
  a : Bool
  b : Bool
  c : Bool
  k : Int
  m : Bool
instance : Inhabited Use := ⟨⟨false, false, false, 0, false⟩⟩
def Use.enc (u : Use) : List Value := [.bool u.a, .bool u.b, .bool u.c, .int .u8 u.k, .bool u.m]
theorem Use.len (u : Use) : u.enc.length = 5 := rfl
def usesStart : List Use := [⟨false, false, false, 0, false⟩, ⟨true, false, false, 1, false⟩, ⟨true, false, false, 2, false⟩, ⟨true, false, false, 2, false⟩, ⟨true, true, false, 2, false⟩, ⟨true, true, false, 2, false⟩,
  ⟨false, false, false, 0, false⟩, ⟨false, false, false, 0, false⟩, ⟨false, false, false, 0, false⟩, ⟨false, false, false, 0, false⟩, ⟨false, false, false, 0, false⟩, ⟨false, false, false, 0, false⟩,
  ⟨false, false, false, 0, false⟩, ⟨false, false, false, 0, false⟩, ⟨false, false, false, 0, false⟩, ⟨false, false, false, 0, false⟩, ⟨false, false, false, 0, false⟩, ⟨false, false, false, 0, false⟩,
  ⟨true, true, true, 0, false⟩, ⟨true, false, false, 3, false⟩, ⟨false, false, false, 3, false⟩, ⟨true, false, false, 4, false⟩, ⟨false, true, false, 2, true⟩, ⟨true, false, false, 5, false⟩, ⟨false, false, false, 6, false⟩, ⟨true, false, false, 0, false⟩]
def usesZero : List Use := List.replicate 26 ⟨false, false, false, 0, false⟩
def usesAt : Nat → List Use
  | 0 => usesStart
  | n + 1 => (usesAt n).set (6 + n) ⟨true, true, true, 0, false⟩
theorem usesAt_len : ∀ n, (usesAt n).length = 26
  | 0 => rfl
  | n + 1 => by simp [usesAt, usesAt_len n]
def usesTab : List Use := usesAt 12
structure Cd where
  op : Int
  a : Int
  b : Int
  c : Int
  n : Int
  m : Int
instance : Inhabited Cd := ⟨⟨0, 0, 0, 0, 0, 0⟩⟩
def Cd.enc (c : Cd) : List Value := [.int .u8 c.op, .int .u8 c.a, .int .u8 c.b, .int .u8 c.c, .int .i32 c.n, .int .u32 c.m]
theorem Cd.len (c : Cd) : c.enc.length = 6 := rfl
structure Cd.ok (c : Cd) : Prop where
  op0 : 0 ≤ c.op
  op1 : c.op ≤ 255
  a0 : 0 ≤ c.a
  a1 : c.a ≤ 255
  b0 : 0 ≤ c.b
  b1 : c.b ≤ 255
  c0 : 0 ≤ c.c
  c1 : c.c ≤ 255
  n0 : -2147483648 ≤ c.n
  n1 : c.n ≤ 2147483647
  m0 : 0 ≤ c.m
  m1 : c.m ≤ 4294967295
def regB (used : Bool) (r : Int) : Bool := decide (r = 0) || (used && decide (r < 8))
def kindB (k n len cells players : Int) : Bool :=
  if k = 1 then true else if k = 2 then decide (0 ≤ n) && decide (n < cells) else if k = 3 then decide (0 ≤ n) && decide (n ≤ len) else if k = 4 then decide (0 ≤ n) && decide (n < players) else if k = 5 then decide (1 ≤ n) else decide (n = 0)
def rightB (c : Cd) (len cells players : Int) : Bool :=
  if c.op > 25 then false else
  let u := usesTab.getD c.op.toNat default
  if u.k = 6 then regB false (bits .or .u8 c.a c.b) && (decide (1 ≤ c.c) && decide (c.c ≤ 48)) && decide (0 ≤ c.n) && decide (c.n + c.c ≤ cells) && decide (c.m = 0)
  else kindB u.k c.n len cells players && regB u.a c.a && regB u.b c.b && regB u.c c.c && (u.m || decide (c.m = 0))
def checkB (l : List Cd) (cells players : Int) : Bool := decide (l.length ≤ 96) && l.all fun c => rightB c l.length cells players

theorem register_ok (W : World) (used : Bool) (r : Int) :
    Calls Try.prog 53 #[.bool used, .int .u8 r] W fun e w' => e = .returned (.bool (regB used r)) ∧ Fr [] W w' := by
  have H : St W [] [] [] W := St.start [] (by simp)
  refine calls_enter (N := 14) Try.func53 rfl Try.ntmps53 rfl ?_
  refine WC_seq ?_
  refine WC_region ?_
  refine WL_x (x_assign (v := (.bool false)) rfl) ?_
  refine WL_nil ?_
  refine thenE_normal ?_
  refine WC_seq ?_
  refine WC_region ?_
  refine WL_x (x_move (v := .int .u8 _) rfl) ?_
  refine WL_x (x_binop rfl rfl (r_eql _ _ _ _)) ?_
  refine WL_x (x_move (v := .bool _) rfl) ?_
  first | refine WL_cased (t := 7) rfl (fun h7 => ?_) (fun h7 => ?_) | refine WL_casen (t := 7) rfl (fun h7 => ?_) (fun h7 => ?_) | refine WL_case (t := 7) rfl (fun h7 => ?_) (fun h7 => ?_)
  · refine WL_guard_no rfl rfl rfl ?_
    refine WL_guard_no rfl rfl rfl ?_
    refine WL_guard_u rfl rfl rfl ?_
    refine WL_guard_u rfl rfl rfl ?_
    refine WL_guard_no rfl rfl rfl ?_
    refine WL_x (x_pick (v := .bool _) rfl rfl) ?_
    refine WL_x (x_assign (v := .bool _) rfl) ?_
    refine WL_nil ?_
    refine thenE_normal ?_
    refine WC_ret ?_
    refine ends1 (v := .bool _) Try.results53 rfl ?_
    exact ⟨by simp [regB, *], H.fr⟩
  · refine WL_guard_yes rfl rfl rfl ?_
    refine WL_x (x_move (v := .bool _) rfl) ?_
    refine WL_guard_yes rfl rfl rfl ?_
    refine WL_x (x_move (v := .bool _) rfl) ?_
    first | refine WL_cased (t := 9) rfl (fun h9 => ?_) (fun h9 => ?_) | refine WL_casen (t := 9) rfl (fun h9 => ?_) (fun h9 => ?_) | refine WL_case (t := 9) rfl (fun h9 => ?_) (fun h9 => ?_)
    · refine WL_guard_yes rfl rfl rfl ?_
      refine WL_x (x_move (v := .int .u8 _) rfl) ?_
      refine WL_guard_yes rfl rfl rfl ?_
      refine WL_x (x_binop rfl rfl (r_lss _ _ _ _)) ?_
      refine WL_guard_yes rfl rfl rfl ?_
      refine WL_x (x_pick (v := .bool _) rfl rfl) ?_
      refine WL_x (x_pick (v := .bool _) rfl rfl) ?_
      refine WL_x (x_assign (v := .bool _) rfl) ?_
      refine WL_nil ?_
      refine thenE_normal ?_
      refine WC_ret ?_
      refine ends1 (v := .bool _) Try.results53 rfl ?_
      exact ⟨by simp [regB, *], H.fr⟩
    · refine WL_guard_no rfl rfl rfl ?_
      refine WL_guard_no rfl rfl rfl ?_
      refine WL_guard_yes rfl rfl rfl ?_
      refine WL_x (x_pick (v := .bool _) rfl rfl) ?_
      refine WL_x (x_pick (v := .bool _) rfl rfl) ?_
      refine WL_x (x_assign (v := .bool _) rfl) ?_
      refine WL_nil ?_
      refine thenE_normal ?_
      refine WC_ret ?_
      refine ends1 (v := .bool _) Try.results53 rfl ?_
      exact ⟨by simp [regB, *], H.fr⟩

set_option maxRecDepth 10000 in
theorem uses_ok (W : World) :
    Calls Try.prog 39 #[] W fun e w' => e = .returned (.agg (encs Use.enc usesTab).toArray) ∧ Fr [] W w' := by
  have H : St W [] [] [] W := St.start [] (by simp)
  refine calls_enter (N := 25) Try.func39 rfl Try.ntmps39 rfl ?_
  refine WC_seq ?_
  refine WC_region ?_
  refine WL_alloc (l := (encs Use.enc usesZero)) (by kernel_rfl) H ?_
  clear H; intro b0 w H
  refine WL_nil ?_
  refine thenE_normal ?_
  refine WC_seq ?_
  refine WC_region ?_
  refine WL_x (x_buildS (pl := [(0, 1), (1, 1), (2, 1), (3, 1), (4, 1)]) (zero := [(.bool false), (.bool false), (.bool false), (.int .u8 0), (.bool false)]) (cells := [_, _, _, _, _]) (vs := [(0, (.bool true)), (3, (.int .u8 1))]) Try.underlying97 (by kernel_rfl) (by kernel_rfl) (by kernel_rfl) rfl rfl) ?_
  refine WL_x (x_buildS (pl := [(0, 1), (1, 1), (2, 1), (3, 1), (4, 1)]) (zero := [(.bool false), (.bool false), (.bool false), (.int .u8 0), (.bool false)]) (cells := [_, _, _, _, _]) (vs := [(0, (.bool true)), (3, (.int .u8 2))]) Try.underlying97 (by kernel_rfl) (by kernel_rfl) (by kernel_rfl) rfl rfl) ?_
  refine WL_x (x_buildS (pl := [(0, 1), (1, 1), (2, 1), (3, 1), (4, 1)]) (zero := [(.bool false), (.bool false), (.bool false), (.int .u8 0), (.bool false)]) (cells := [_, _, _, _, _]) (vs := [(0, (.bool true)), (3, (.int .u8 2))]) Try.underlying97 (by kernel_rfl) (by kernel_rfl) (by kernel_rfl) rfl rfl) ?_
  refine WL_x (x_buildS (pl := [(0, 1), (1, 1), (2, 1), (3, 1), (4, 1)]) (zero := [(.bool false), (.bool false), (.bool false), (.int .u8 0), (.bool false)]) (cells := [_, _, _, _, _]) (vs := [(0, (.bool true)), (1, (.bool true)), (3, (.int .u8 2))]) Try.underlying97 (by kernel_rfl) (by kernel_rfl) (by kernel_rfl) rfl rfl) ?_
  refine WL_x (x_buildS (pl := [(0, 1), (1, 1), (2, 1), (3, 1), (4, 1)]) (zero := [(.bool false), (.bool false), (.bool false), (.int .u8 0), (.bool false)]) (cells := [_, _, _, _, _]) (vs := [(0, (.bool true)), (1, (.bool true)), (3, (.int .u8 2))]) Try.underlying97 (by kernel_rfl) (by kernel_rfl) (by kernel_rfl) rfl rfl) ?_
  refine WL_x (x_buildS (pl := [(0, 1), (1, 1), (2, 1), (3, 1), (4, 1)]) (zero := [(.bool false), (.bool false), (.bool false), (.int .u8 0), (.bool false)]) (cells := [_, _, _, _, _]) (vs := [(0, (.bool true)), (1, (.bool true)), (2, (.bool true))]) Try.underlying97 (by kernel_rfl) (by kernel_rfl) (by kernel_rfl) rfl rfl) ?_
  refine WL_x (x_buildS (pl := [(0, 1), (1, 1), (2, 1), (3, 1), (4, 1)]) (zero := [(.bool false), (.bool false), (.bool false), (.int .u8 0), (.bool false)]) (cells := [_, _, _, _, _]) (vs := [(0, (.bool true)), (3, (.int .u8 3))]) Try.underlying97 (by kernel_rfl) (by kernel_rfl) (by kernel_rfl) rfl rfl) ?_
  refine WL_x (x_buildS (pl := [(0, 1), (1, 1), (2, 1), (3, 1), (4, 1)]) (zero := [(.bool false), (.bool false), (.bool false), (.int .u8 0), (.bool false)]) (cells := [_, _, _, _, _]) (vs := [(3, (.int .u8 3))]) Try.underlying97 (by kernel_rfl) (by kernel_rfl) (by kernel_rfl) rfl rfl) ?_
  refine WL_x (x_buildS (pl := [(0, 1), (1, 1), (2, 1), (3, 1), (4, 1)]) (zero := [(.bool false), (.bool false), (.bool false), (.int .u8 0), (.bool false)]) (cells := [_, _, _, _, _]) (vs := [(0, (.bool true)), (3, (.int .u8 4))]) Try.underlying97 (by kernel_rfl) (by kernel_rfl) (by kernel_rfl) rfl rfl) ?_
  refine WL_x (x_buildS (pl := [(0, 1), (1, 1), (2, 1), (3, 1), (4, 1)]) (zero := [(.bool false), (.bool false), (.bool false), (.int .u8 0), (.bool false)]) (cells := [_, _, _, _, _]) (vs := [(1, (.bool true)), (3, (.int .u8 2)), (4, (.bool true))]) Try.underlying97 (by kernel_rfl) (by kernel_rfl) (by kernel_rfl) rfl rfl) ?_
  refine WL_x (x_buildS (pl := [(0, 1), (1, 1), (2, 1), (3, 1), (4, 1)]) (zero := [(.bool false), (.bool false), (.bool false), (.int .u8 0), (.bool false)]) (cells := [_, _, _, _, _]) (vs := [(0, (.bool true)), (3, (.int .u8 5))]) Try.underlying97 (by kernel_rfl) (by kernel_rfl) (by kernel_rfl) rfl rfl) ?_
  refine WL_x (x_buildS (pl := [(0, 1), (1, 1), (2, 1), (3, 1), (4, 1)]) (zero := [(.bool false), (.bool false), (.bool false), (.int .u8 0), (.bool false)]) (cells := [_, _, _, _, _]) (vs := [(3, (.int .u8 6))]) Try.underlying97 (by kernel_rfl) (by kernel_rfl) (by kernel_rfl) rfl rfl) ?_
  refine WL_x (x_buildS (pl := [(0, 1), (1, 1), (2, 1), (3, 1), (4, 1)]) (zero := [(.bool false), (.bool false), (.bool false), (.int .u8 0), (.bool false)]) (cells := [_, _, _, _, _]) (vs := [(0, (.bool true))]) Try.underlying97 (by kernel_rfl) (by kernel_rfl) (by kernel_rfl) rfl rfl) ?_
  refine WL_x (x_buildArr (s := 5) (zero := (encs Use.enc usesZero)) (cells := (encs Use.enc usesStart)) (vs := [(1, .agg (List.toArray _)), (2, .agg (List.toArray _)), (3, .agg (List.toArray _)), (4, .agg (List.toArray _)), (5, .agg (List.toArray _)), (18, .agg (List.toArray _)), (19, .agg (List.toArray _)), (20, .agg (List.toArray _)), (21, .agg (List.toArray _)), (22, .agg (List.toArray _)), (23, .agg (List.toArray _)), (24, .agg (List.toArray _)), (25, .agg (List.toArray _))]) Try.underlying98 (by kernel_rfl) (by kernel_rfl) rfl (by rfl)) ?_
  refine WL_alloc (l := (encs Use.enc usesZero)) (by kernel_rfl) H ?_
  clear H; intro b1 w H
  first | refine WL_storeA rfl rfl (by kernel_rfl) (by kernel_rfl) H .zero (Nat.le_of_ble_eq_true (by kernel_rfl)) (splice_all _ _ (by kernel_rfl)) ?_ | refine WL_storeA rfl rfl (by kernel_rfl) (by kernel_rfl) H (.succ .zero) (Nat.le_of_ble_eq_true (by kernel_rfl)) (splice_all _ _ (by kernel_rfl)) ?_ | refine WL_storeA rfl rfl (by kernel_rfl) (by kernel_rfl) H (.succ (.succ .zero)) (Nat.le_of_ble_eq_true (by kernel_rfl)) (splice_all _ _ (by kernel_rfl)) ?_ | refine WL_storeA rfl rfl (by kernel_rfl) (by kernel_rfl) H (.succ (.succ (.succ .zero))) (Nat.le_of_ble_eq_true (by kernel_rfl)) (splice_all _ _ (by kernel_rfl)) ?_ | refine WL_storeA rfl rfl (by kernel_rfl) (by kernel_rfl) H (.succ (.succ (.succ (.succ .zero)))) (Nat.le_of_ble_eq_true (by kernel_rfl)) (splice_all _ _ (by kernel_rfl)) ?_
  clear H; intro w H
  refine WL_nil ?_
  refine thenE_normal ?_
  refine WC_seq ?_
  refine WC_seq ?_
  refine WC_region ?_
  refine WL_x (x_assign (v := (.int .i64 6)) rfl) ?_
  refine WL_nil ?_
  refine thenE_normal ?_
  refine WC_block ?_
  refine WC_while (fun (i : Nat) f w' => i ≤ 12 ∧ f 2 = .int .i64 (6 + i : Nat) ∧ f 1 = .pointer (some ⟨b1, 0, none⟩) ∧ f 0 = .pointer (some ⟨b0, 0, none⟩) ∧ ∃ l0, l0.length = 130 ∧ St W [] [blk b1 (encs Use.enc (usesAt i)) 98, blk b0 l0 98] [] w') (fun i => 12 - i) (s0 := 0) ?_ ?_
  · exact ⟨Nat.zero_le _, rfl, rfl, rfl, _, rfl, H⟩
  · clear H
    rintro i f w ⟨hi, h2, h1, h0, l0, hl0, H⟩
    rw [← upd_self h2, ← upd_self h1, ← upd_self h0]
    refine WC_seq ?_
    refine WC_seq ?_
    refine WC_region ?_
    refine WL_x (x_move (v := .int .i64 _) rfl) ?_
    refine WL_x (x_binop rfl rfl (r_leq _ _ _ _)) ?_
    refine WL_nil ?_
    refine thenE_normal ?_
    refine WC_ifd rfl (fun h18 => ?_) (fun h18 => ?_)
    · have hi11 : i ≤ 11 := by omega
      refine WC_skip ?_
      refine thenE_normal ?_
      refine WC_seq ?_
      refine WC_block ?_
      refine WC_region ?_
      refine WL_x (x_move (v := .int .i64 _) rfl) ?_
      refine WL_x (x_buildS (pl := [(0, 1), (1, 1), (2, 1), (3, 1), (4, 1)]) (zero := [(.bool false), (.bool false), (.bool false), (.int .u8 0), (.bool false)]) (cells := [_, _, _, _, _]) (vs := [(0, (.bool true)), (1, (.bool true)), (2, (.bool true))]) Try.underlying97 (by kernel_rfl) (by kernel_rfl) (by kernel_rfl) rfl rfl) ?_
      refine WL_x (x_indexAddr_arr (s := 5) Try.underlying98 (by kernel_rfl) rfl rfl (by omega) (by omega) rfl) ?_
      refine WL_storeA (l' := encs Use.enc (usesAt (i + 1))) rfl rfl rfl (by kernel_rfl) H .zero (by rw [encs_length Use.enc Use.len, usesAt_len]; simp; omega) (by
        have : ((6 + i : Nat) : Int).toNat = 6 + i := by omega
        rw [this, Nat.zero_add]
        exact encs_splice Use.enc Use.len (usesAt i) (6 + i) ⟨true, true, true, 0, false⟩ (by rw [usesAt_len]; omega)) ?_
      intro w H
      refine WL_nil ?_
      refine inBlockE_normal ?_
      refine thenE_normal ?_
      refine WC_region ?_
      refine WL_x (x_move (v := .int .i64 _) rfl) ?_
      refine WL_x (x_binop rfl rfl (r_add_in (i64_in (by omega) (by omega)))) ?_
      refine WL_x (x_assign (v := .int .i64 _) rfl) ?_
      refine WL_nil ?_
      refine thenE_normal ?_
      exact ⟨i + 1, ⟨by omega, by simp [upd]; omega, rfl, rfl, l0, hl0, H⟩, by omega⟩
    · obtain rfl : i = 12 := by omega
      refine WC_exit ?_
      refine thenE_exit ?_
      refine thenE_exit ?_
      refine inBlockE_exit ?_
      refine thenE_normal ?_
      refine WC_seq ?_
      refine WC_region ?_
      refine WL_x (x_loadA (n := 130) (vs := encs Use.enc (usesAt 12)) Try.underlying98 rfl (by kernel_rfl) (by rw [encs_length Use.enc Use.len, usesAt_len]) rfl (H.rangeAll .zero rfl rfl)) ?_
      refine WL_storeA rfl rfl (by kernel_rfl) (by kernel_rfl) H (.succ .zero) (by rw [encs_length Use.enc Use.len, usesAt_len, hl0]; decide) (splice_all _ _ (by rw [encs_length Use.enc Use.len, usesAt_len, hl0])) ?_
      intro w H
      refine WL_nil ?_
      refine thenE_normal ?_
      refine WC_ret ?_
      refine endsR (rs := [.cell 0 98]) (vs := [.agg (encs Use.enc (usesAt 12)).toArray]) Try.results39 ?_ ?_
      · exact .cons (.agg (n := 130) (vs := encs Use.enc (usesAt 12)) rfl Try.underlying98 rfl (by kernel_rfl) (by rw [encs_length Use.enc Use.len, usesAt_len]) (H.rangeAll (.succ .zero) rfl rfl)) .nil
      exact ⟨rfl, H.fr⟩

set_option maxHeartbeats 4000000 in
theorem right_ok (W : World) (c : Cd) (len cells players : Int) (hc : c.ok) (hlen : 0 ≤ len ∧ len ≤ 9223372036854775807) (hcells : 0 ≤ cells ∧ cells ≤ 9223372036854775807) (hplayers : -9223372036854775808 ≤ players ∧ players ≤ 9223372036854775807) :
    Calls Try.prog 40 #[.agg c.enc.toArray, .agg (encs Use.enc usesTab).toArray, .int .i64 len, .int .i64 cells, .int .i64 players] W fun e w' => e = .returned (.bool (rightB c len cells players)) ∧ Fr [] W w' := by
  obtain ⟨op0, op1, a0, a1, b0, b1, c0, c1, n0, n1, m0, m1⟩ := hc
  have H : St W [] [] [] W := St.start [] (by simp)
  refine calls_enter (N := 130) Try.func40 rfl Try.ntmps40 rfl ?_
  refine WC_seq ?_
  refine WC_region ?_
  refine WL_box (v := .agg (List.toArray _)) rfl rfl H ?_
  clear H; intro b5 w H
  refine WL_box (v := .agg (List.toArray _)) rfl rfl H ?_
  clear H; intro b6 w H
  refine WL_x (x_assign (v := (.bool false)) rfl) ?_
  refine WL_nil ?_
  refine thenE_normal ?_
  refine WC_seq ?_
  refine WC_seq ?_
  refine WC_region ?_
  refine WL_x (x_fieldAddr (n := 0) (o' := 0) Try.underlying79 rfl (by kernel_rfl) rfl rfl) ?_
  first | refine WL_x (x_load (v := .int .u8 _) Try.underlying5 rfl rfl (H.cellAt .zero rfl)) ?_ | refine WL_x (x_load (v := .int .u8 _) Try.underlying5 rfl rfl (H.cellAt (.succ .zero) rfl)) ?_ | refine WL_x (x_load (v := .int .u8 _) Try.underlying5 rfl rfl (H.cellAt (.succ (.succ .zero)) rfl)) ?_ | refine WL_x (x_load (v := .int .u8 _) Try.underlying5 rfl rfl (H.cellAt (.succ (.succ (.succ .zero))) rfl)) ?_ | refine WL_x (x_load (v := .int .u8 _) Try.underlying5 rfl rfl (H.cellAt (.succ (.succ (.succ (.succ .zero)))) rfl)) ?_ | refine WL_x (x_load Try.underlying5 rfl rfl (H.rnum .zero (by omega) (by omega))) ?_ | refine WL_x (x_load Try.underlying5 rfl rfl (H.rnum (.succ .zero) (by omega) (by omega))) ?_ | refine WL_x (x_load Try.underlying5 rfl rfl (H.rnum (.succ (.succ .zero)) (by omega) (by omega))) ?_ | refine WL_x (x_load Try.underlying5 rfl rfl (H.onum .zero (by omega) (by omega))) ?_ | refine WL_x (x_load Try.underlying5 rfl rfl (H.onum (.succ .zero) (by omega) (by omega))) ?_ | refine WL_x (x_load Try.underlying5 rfl rfl (H.onum (.succ (.succ .zero)) (by omega) (by omega))) ?_
  refine WL_x (x_binop rfl rfl (r_gtr _ _ _ _)) ?_
  refine WL_nil ?_
  refine thenE_normal ?_
  refine WC_ifd rfl (fun h17 => ?_) (fun h17 => ?_)
  · refine WC_seq ?_
    refine WC_region ?_
    refine WL_x (x_assign (v := (.bool false)) rfl) ?_
    refine WL_nil ?_
    refine thenE_normal ?_
    refine WC_ret ?_
    refine thenE_ret ?_
    refine ends1 (v := .bool _) Try.results40 rfl ?_
    refine ⟨congrArg (fun b => Ending.returned (Value.bool b)) ?_, H.fr⟩
    unfold rightB
    first
      | rw [if_pos h17]
      | (rw [if_neg h17, hud]
         clear hu hud hop H hlen hcells hplayers op0 op1 a0 a1 b0 b1 c0 c1 n0 n1 m0 m1
         dsimp only at *
         first | rw [if_neg hk6] | rw [if_pos h62]
         simp [*])
  · have hop : c.op.toNat < usesTab.length := by rw [show usesTab.length = 26 from usesAt_len 12]; omega
    obtain ⟨ua, ub, uc, uk, um, hu⟩ : ∃ ua ub uc uk um, usesTab[c.op.toNat] = Use.mk ua ub uc uk um := ⟨_, _, _, _, _, rfl⟩
    have hud : usesTab.getD c.op.toNat default = Use.mk ua ub uc uk um := by rw [List.getD_eq_getElem?_getD, List.getElem?_eq_getElem hop]; exact hu
    refine WC_skip ?_
    refine thenE_normal ?_
    refine WC_seq ?_
    refine WC_region ?_
    refine WL_x (x_fieldAddr (n := 0) (o' := 0) Try.underlying79 rfl (by kernel_rfl) rfl rfl) ?_
    first | refine WL_x (x_load (v := .int .u8 _) Try.underlying5 rfl rfl (H.cellAt .zero rfl)) ?_ | refine WL_x (x_load (v := .int .u8 _) Try.underlying5 rfl rfl (H.cellAt (.succ .zero) rfl)) ?_ | refine WL_x (x_load (v := .int .u8 _) Try.underlying5 rfl rfl (H.cellAt (.succ (.succ .zero)) rfl)) ?_ | refine WL_x (x_load (v := .int .u8 _) Try.underlying5 rfl rfl (H.cellAt (.succ (.succ (.succ .zero))) rfl)) ?_ | refine WL_x (x_load (v := .int .u8 _) Try.underlying5 rfl rfl (H.cellAt (.succ (.succ (.succ (.succ .zero)))) rfl)) ?_ | refine WL_x (x_load Try.underlying5 rfl rfl (H.rnum .zero (by omega) (by omega))) ?_ | refine WL_x (x_load Try.underlying5 rfl rfl (H.rnum (.succ .zero) (by omega) (by omega))) ?_ | refine WL_x (x_load Try.underlying5 rfl rfl (H.rnum (.succ (.succ .zero)) (by omega) (by omega))) ?_ | refine WL_x (x_load Try.underlying5 rfl rfl (H.onum .zero (by omega) (by omega))) ?_ | refine WL_x (x_load Try.underlying5 rfl rfl (H.onum (.succ .zero) (by omega) (by omega))) ?_ | refine WL_x (x_load Try.underlying5 rfl rfl (H.onum (.succ (.succ .zero)) (by omega) (by omega))) ?_
    refine WL_x (x_indexAddr_arr (s := 5) Try.underlying98 (by kernel_rfl) rfl rfl (by omega) (by omega) rfl) ?_
    refine WL_x (x_loadA (n := 5) (vs := Use.enc ⟨ua, ub, uc, uk, um⟩) Try.underlying97 rfl (by kernel_rfl) rfl rfl (H.range (k := 5) .zero (by rw [Nat.zero_add, ← hu]; exact encs_get Use.enc Use.len usesTab _ hop))) ?_
    refine WL_alloc (l := [(.bool false), (.bool false), (.bool false), (.int .u8 0), (.bool false)]) (by kernel_rfl) H ?_
    clear H; intro b11 w H
    first | refine WL_storeA rfl rfl rfl (by kernel_rfl) H .zero (Nat.le_of_ble_eq_true rfl) (splice_all _ _ rfl) ?_ | refine WL_storeA rfl rfl rfl (by kernel_rfl) H (.succ .zero) (Nat.le_of_ble_eq_true rfl) (splice_all _ _ rfl) ?_ | refine WL_storeA rfl rfl rfl (by kernel_rfl) H (.succ (.succ .zero)) (Nat.le_of_ble_eq_true rfl) (splice_all _ _ rfl) ?_ | refine WL_storeA rfl rfl rfl (by kernel_rfl) H (.succ (.succ (.succ .zero))) (Nat.le_of_ble_eq_true rfl) (splice_all _ _ rfl) ?_ | refine WL_storeA rfl rfl rfl (by kernel_rfl) H (.succ (.succ (.succ (.succ .zero)))) (Nat.le_of_ble_eq_true rfl) (splice_all _ _ rfl) ?_
    clear H; intro w H
    refine WL_nil ?_
    refine thenE_normal ?_
    refine WC_seq ?_
    refine WC_region ?_
    refine WL_x (x_fieldAddr (n := 0) (o' := 4) Try.underlying79 rfl (by kernel_rfl) rfl rfl) ?_
    first | refine WL_x (x_load (v := .int .i32 _) Try.underlying21 rfl rfl (H.cellAt .zero rfl)) ?_ | refine WL_x (x_load (v := .int .i32 _) Try.underlying21 rfl rfl (H.cellAt (.succ .zero) rfl)) ?_ | refine WL_x (x_load (v := .int .i32 _) Try.underlying21 rfl rfl (H.cellAt (.succ (.succ .zero)) rfl)) ?_ | refine WL_x (x_load (v := .int .i32 _) Try.underlying21 rfl rfl (H.cellAt (.succ (.succ (.succ .zero))) rfl)) ?_ | refine WL_x (x_load (v := .int .i32 _) Try.underlying21 rfl rfl (H.cellAt (.succ (.succ (.succ (.succ .zero)))) rfl)) ?_ | refine WL_x (x_load Try.underlying21 rfl rfl (H.rnum .zero (by omega) (by omega))) ?_ | refine WL_x (x_load Try.underlying21 rfl rfl (H.rnum (.succ .zero) (by omega) (by omega))) ?_ | refine WL_x (x_load Try.underlying21 rfl rfl (H.rnum (.succ (.succ .zero)) (by omega) (by omega))) ?_ | refine WL_x (x_load Try.underlying21 rfl rfl (H.onum .zero (by omega) (by omega))) ?_ | refine WL_x (x_load Try.underlying21 rfl rfl (H.onum (.succ .zero) (by omega) (by omega))) ?_ | refine WL_x (x_load Try.underlying21 rfl rfl (H.onum (.succ (.succ .zero)) (by omega) (by omega))) ?_
    refine WL_x (x_convert Try.underlying21 Try.underlying2 rfl (i64_in (by omega) (by omega))) ?_
    refine WL_x (x_assign (v := .int .i64 _) rfl) ?_
    refine WL_nil ?_
    refine thenE_normal ?_
    refine WC_seq ?_
    refine WC_region ?_
    refine WL_x (x_move (v := .int .i64 _) rfl) ?_
    refine WL_x (x_binop rfl rfl (r_eql _ _ _ _)) ?_
    refine WL_x (x_assign (v := .bool _) rfl) ?_
    refine WL_nil ?_
    refine thenE_normal ?_
    refine WC_cut (fun (_ : Unit) f w' => f 13 = .bool (kindB uk c.n len cells players) ∧ uk ≠ 6 ∧ f 5 = .pointer (some ⟨b5, 0, none⟩) ∧ f 11 = .pointer (some ⟨b11, 0, none⟩) ∧ St W [] [blk b11 (Use.enc ⟨ua, ub, uc, uk, um⟩) 97, blk b6 (encs Use.enc usesTab) 98, blk b5 c.enc 79] [] w') ?_ ?_
    · refine WC_seq ?_
      refine WC_region ?_
      refine WL_x (x_fieldAddr (n := 0) (o' := 3) Try.underlying97 rfl (by kernel_rfl) rfl rfl) ?_
      first | refine WL_x (x_load (v := .int .u8 _) Try.underlying5 rfl rfl (H.cellAt .zero rfl)) ?_ | refine WL_x (x_load (v := .int .u8 _) Try.underlying5 rfl rfl (H.cellAt (.succ .zero) rfl)) ?_ | refine WL_x (x_load (v := .int .u8 _) Try.underlying5 rfl rfl (H.cellAt (.succ (.succ .zero)) rfl)) ?_ | refine WL_x (x_load (v := .int .u8 _) Try.underlying5 rfl rfl (H.cellAt (.succ (.succ (.succ .zero))) rfl)) ?_ | refine WL_x (x_load (v := .int .u8 _) Try.underlying5 rfl rfl (H.cellAt (.succ (.succ (.succ (.succ .zero)))) rfl)) ?_ | refine WL_x (x_load Try.underlying5 rfl rfl (H.rnum .zero (by omega) (by omega))) ?_ | refine WL_x (x_load Try.underlying5 rfl rfl (H.rnum (.succ .zero) (by omega) (by omega))) ?_ | refine WL_x (x_load Try.underlying5 rfl rfl (H.rnum (.succ (.succ .zero)) (by omega) (by omega))) ?_ | refine WL_x (x_load Try.underlying5 rfl rfl (H.onum .zero (by omega) (by omega))) ?_ | refine WL_x (x_load Try.underlying5 rfl rfl (H.onum (.succ .zero) (by omega) (by omega))) ?_ | refine WL_x (x_load Try.underlying5 rfl rfl (H.onum (.succ (.succ .zero)) (by omega) (by omega))) ?_
      refine WL_nil ?_
      refine thenE_normal ?_
      refine WC_block ?_
      refine WC_seq ?_
      refine WC_region ?_
      refine WL_x (x_binop rfl rfl (r_eql _ _ _ _)) ?_
      refine WL_x (x_assign (v := .bool _) rfl) ?_
      refine WL_nil ?_
      refine thenE_normal ?_
      first | refine WC_ifd rfl (fun h29 => ?_) (fun h29 => ?_) | refine WC_ifn rfl (fun h29 => ?_) (fun h29 => ?_) | refine WC_if rfl (fun h29 => ?_) (fun h29 => ?_)
      · refine WC_region ?_
        refine WL_x (x_assign (v := (.bool true)) rfl) ?_
        refine WL_nil ?_
        refine inBlockE_normal ?_
        refine thenE_normal ?_
        clear hu hud hop hlen hcells hplayers op0 op1 a0 a1 b0 b1 c0 c1 n0 n1 m0 m1
        try dsimp only at *
        first
          | exact ⟨(), by show Value.bool _ = _; clear H; simp [kindB, *], by omega, rfl, rfl, H⟩
          | exact ⟨(), by show Value.bool _ = _; clear H; simp [kindB, *], by assumption, rfl, rfl, H⟩
      · refine WC_seq ?_
        refine WC_region ?_
        refine WL_x (x_binop rfl rfl (r_eql _ _ _ _)) ?_
        refine WL_x (x_assign (v := .bool _) rfl) ?_
        refine WL_nil ?_
        refine thenE_normal ?_
        first | refine WC_ifd rfl (fun h31 => ?_) (fun h31 => ?_) | refine WC_ifn rfl (fun h31 => ?_) (fun h31 => ?_) | refine WC_if rfl (fun h31 => ?_) (fun h31 => ?_)
        · refine WC_region ?_
          refine WL_x (x_move (v := .int .i64 _) rfl) ?_
          refine WL_x (x_binop rfl rfl (r_geq _ _ _ _)) ?_
          refine WL_x (x_move (v := .bool _) rfl) ?_
          first | refine WL_cased (t := 35) rfl (fun h35 => ?_) (fun h35 => ?_) | refine WL_casen (t := 35) rfl (fun h35 => ?_) (fun h35 => ?_) | refine WL_case (t := 35) rfl (fun h35 => ?_) (fun h35 => ?_)
          · refine WL_guard_yes rfl rfl rfl ?_
            refine WL_x (x_move (v := .int .i64 _) rfl) ?_
            refine WL_guard_yes rfl rfl rfl ?_
            refine WL_x (x_move (v := .int .i64 _) rfl) ?_
            refine WL_guard_yes rfl rfl rfl ?_
            refine WL_x (x_binop rfl rfl (r_lss _ _ _ _)) ?_
            refine WL_x (x_pick (v := .bool _) rfl rfl) ?_
            refine WL_x (x_assign (v := .bool _) rfl) ?_
            refine WL_nil ?_
            refine inBlockE_normal ?_
            refine thenE_normal ?_
            clear hu hud hop hlen hcells hplayers op0 op1 a0 a1 b0 b1 c0 c1 n0 n1 m0 m1
            try dsimp only at *
            first
              | exact ⟨(), by show Value.bool _ = _; clear H; simp [kindB, *], by omega, rfl, rfl, H⟩
              | exact ⟨(), by show Value.bool _ = _; clear H; simp [kindB, *], by assumption, rfl, rfl, H⟩
          · refine WL_guard_no rfl rfl rfl ?_
            refine WL_guard_no rfl rfl rfl ?_
            refine WL_guard_no rfl rfl rfl ?_
            refine WL_x (x_pick (v := .bool _) rfl rfl) ?_
            refine WL_x (x_assign (v := .bool _) rfl) ?_
            refine WL_nil ?_
            refine inBlockE_normal ?_
            refine thenE_normal ?_
            clear hu hud hop hlen hcells hplayers op0 op1 a0 a1 b0 b1 c0 c1 n0 n1 m0 m1
            try dsimp only at *
            first
              | exact ⟨(), by show Value.bool _ = _; clear H; simp [kindB, *], by omega, rfl, rfl, H⟩
              | exact ⟨(), by show Value.bool _ = _; clear H; simp [kindB, *], by assumption, rfl, rfl, H⟩
        · refine WC_seq ?_
          refine WC_region ?_
          refine WL_x (x_binop rfl rfl (r_eql _ _ _ _)) ?_
          refine WL_x (x_assign (v := .bool _) rfl) ?_
          refine WL_nil ?_
          refine thenE_normal ?_
          first | refine WC_ifd rfl (fun h40 => ?_) (fun h40 => ?_) | refine WC_ifn rfl (fun h40 => ?_) (fun h40 => ?_) | refine WC_if rfl (fun h40 => ?_) (fun h40 => ?_)
          · refine WC_region ?_
            refine WL_x (x_move (v := .int .i64 _) rfl) ?_
            refine WL_x (x_binop rfl rfl (r_geq _ _ _ _)) ?_
            refine WL_x (x_move (v := .bool _) rfl) ?_
            first | refine WL_cased (t := 44) rfl (fun h44 => ?_) (fun h44 => ?_) | refine WL_casen (t := 44) rfl (fun h44 => ?_) (fun h44 => ?_) | refine WL_case (t := 44) rfl (fun h44 => ?_) (fun h44 => ?_)
            · refine WL_guard_yes rfl rfl rfl ?_
              refine WL_x (x_move (v := .int .i64 _) rfl) ?_
              refine WL_guard_yes rfl rfl rfl ?_
              refine WL_x (x_move (v := .int .i64 _) rfl) ?_
              refine WL_guard_yes rfl rfl rfl ?_
              refine WL_x (x_binop rfl rfl (r_leq _ _ _ _)) ?_
              refine WL_x (x_pick (v := .bool _) rfl rfl) ?_
              refine WL_x (x_assign (v := .bool _) rfl) ?_
              refine WL_nil ?_
              refine inBlockE_normal ?_
              refine thenE_normal ?_
              clear hu hud hop hlen hcells hplayers op0 op1 a0 a1 b0 b1 c0 c1 n0 n1 m0 m1
              try dsimp only at *
              first
                | exact ⟨(), by show Value.bool _ = _; clear H; simp [kindB, *], by omega, rfl, rfl, H⟩
                | exact ⟨(), by show Value.bool _ = _; clear H; simp [kindB, *], by assumption, rfl, rfl, H⟩
            · refine WL_guard_no rfl rfl rfl ?_
              refine WL_guard_no rfl rfl rfl ?_
              refine WL_guard_no rfl rfl rfl ?_
              refine WL_x (x_pick (v := .bool _) rfl rfl) ?_
              refine WL_x (x_assign (v := .bool _) rfl) ?_
              refine WL_nil ?_
              refine inBlockE_normal ?_
              refine thenE_normal ?_
              clear hu hud hop hlen hcells hplayers op0 op1 a0 a1 b0 b1 c0 c1 n0 n1 m0 m1
              try dsimp only at *
              first
                | exact ⟨(), by show Value.bool _ = _; clear H; simp [kindB, *], by omega, rfl, rfl, H⟩
                | exact ⟨(), by show Value.bool _ = _; clear H; simp [kindB, *], by assumption, rfl, rfl, H⟩
          · refine WC_seq ?_
            refine WC_region ?_
            refine WL_x (x_binop rfl rfl (r_eql _ _ _ _)) ?_
            refine WL_x (x_assign (v := .bool _) rfl) ?_
            refine WL_nil ?_
            refine thenE_normal ?_
            first | refine WC_ifd rfl (fun h49 => ?_) (fun h49 => ?_) | refine WC_ifn rfl (fun h49 => ?_) (fun h49 => ?_) | refine WC_if rfl (fun h49 => ?_) (fun h49 => ?_)
            · refine WC_region ?_
              refine WL_x (x_move (v := .int .i64 _) rfl) ?_
              refine WL_x (x_binop rfl rfl (r_geq _ _ _ _)) ?_
              refine WL_x (x_move (v := .bool _) rfl) ?_
              first | refine WL_cased (t := 53) rfl (fun h53 => ?_) (fun h53 => ?_) | refine WL_casen (t := 53) rfl (fun h53 => ?_) (fun h53 => ?_) | refine WL_case (t := 53) rfl (fun h53 => ?_) (fun h53 => ?_)
              · refine WL_guard_yes rfl rfl rfl ?_
                refine WL_x (x_move (v := .int .i64 _) rfl) ?_
                refine WL_guard_yes rfl rfl rfl ?_
                refine WL_x (x_move (v := .int .i64 _) rfl) ?_
                refine WL_guard_yes rfl rfl rfl ?_
                refine WL_x (x_binop rfl rfl (r_lss _ _ _ _)) ?_
                refine WL_x (x_pick (v := .bool _) rfl rfl) ?_
                refine WL_x (x_assign (v := .bool _) rfl) ?_
                refine WL_nil ?_
                refine inBlockE_normal ?_
                refine thenE_normal ?_
                clear hu hud hop hlen hcells hplayers op0 op1 a0 a1 b0 b1 c0 c1 n0 n1 m0 m1
                try dsimp only at *
                first
                  | exact ⟨(), by show Value.bool _ = _; clear H; simp [kindB, *], by omega, rfl, rfl, H⟩
                  | exact ⟨(), by show Value.bool _ = _; clear H; simp [kindB, *], by assumption, rfl, rfl, H⟩
              · refine WL_guard_no rfl rfl rfl ?_
                refine WL_guard_no rfl rfl rfl ?_
                refine WL_guard_no rfl rfl rfl ?_
                refine WL_x (x_pick (v := .bool _) rfl rfl) ?_
                refine WL_x (x_assign (v := .bool _) rfl) ?_
                refine WL_nil ?_
                refine inBlockE_normal ?_
                refine thenE_normal ?_
                clear hu hud hop hlen hcells hplayers op0 op1 a0 a1 b0 b1 c0 c1 n0 n1 m0 m1
                try dsimp only at *
                first
                  | exact ⟨(), by show Value.bool _ = _; clear H; simp [kindB, *], by omega, rfl, rfl, H⟩
                  | exact ⟨(), by show Value.bool _ = _; clear H; simp [kindB, *], by assumption, rfl, rfl, H⟩
            · refine WC_seq ?_
              refine WC_region ?_
              refine WL_x (x_binop rfl rfl (r_eql _ _ _ _)) ?_
              refine WL_x (x_assign (v := .bool _) rfl) ?_
              refine WL_nil ?_
              refine thenE_normal ?_
              first | refine WC_ifd rfl (fun h58 => ?_) (fun h58 => ?_) | refine WC_ifn rfl (fun h58 => ?_) (fun h58 => ?_) | refine WC_if rfl (fun h58 => ?_) (fun h58 => ?_)
              · refine WC_region ?_
                refine WL_x (x_move (v := .int .i64 _) rfl) ?_
                refine WL_x (x_binop rfl rfl (r_geq _ _ _ _)) ?_
                refine WL_x (x_assign (v := .bool _) rfl) ?_
                refine WL_nil ?_
                refine inBlockE_normal ?_
                refine thenE_normal ?_
                clear hu hud hop hlen hcells hplayers op0 op1 a0 a1 b0 b1 c0 c1 n0 n1 m0 m1
                try dsimp only at *
                first
                  | exact ⟨(), by show Value.bool _ = _; clear H; simp [kindB, *], by omega, rfl, rfl, H⟩
                  | exact ⟨(), by show Value.bool _ = _; clear H; simp [kindB, *], by assumption, rfl, rfl, H⟩
              · refine WC_seq ?_
                refine WC_region ?_
                refine WL_x (x_binop rfl rfl (r_eql _ _ _ _)) ?_
                refine WL_x (x_assign (v := .bool _) rfl) ?_
                refine WL_nil ?_
                refine thenE_normal ?_
                first | refine WC_ifd rfl (fun h62 => ?_) (fun h62 => ?_) | refine WC_ifn rfl (fun h62 => ?_) (fun h62 => ?_) | refine WC_if rfl (fun h62 => ?_) (fun h62 => ?_)
                · refine WC_seq ?_
                  refine WC_region ?_
                  refine WL_x (x_fieldAddr (n := 0) (o' := 3) Try.underlying79 rfl (by kernel_rfl) rfl rfl) ?_
                  first | refine WL_x (x_load (v := .int .u8 _) Try.underlying5 rfl rfl (H.cellAt .zero rfl)) ?_ | refine WL_x (x_load (v := .int .u8 _) Try.underlying5 rfl rfl (H.cellAt (.succ .zero) rfl)) ?_ | refine WL_x (x_load (v := .int .u8 _) Try.underlying5 rfl rfl (H.cellAt (.succ (.succ .zero)) rfl)) ?_ | refine WL_x (x_load (v := .int .u8 _) Try.underlying5 rfl rfl (H.cellAt (.succ (.succ (.succ .zero))) rfl)) ?_ | refine WL_x (x_load (v := .int .u8 _) Try.underlying5 rfl rfl (H.cellAt (.succ (.succ (.succ (.succ .zero)))) rfl)) ?_ | refine WL_x (x_load Try.underlying5 rfl rfl (H.rnum .zero (by omega) (by omega))) ?_ | refine WL_x (x_load Try.underlying5 rfl rfl (H.rnum (.succ .zero) (by omega) (by omega))) ?_ | refine WL_x (x_load Try.underlying5 rfl rfl (H.rnum (.succ (.succ .zero)) (by omega) (by omega))) ?_ | refine WL_x (x_load Try.underlying5 rfl rfl (H.onum .zero (by omega) (by omega))) ?_ | refine WL_x (x_load Try.underlying5 rfl rfl (H.onum (.succ .zero) (by omega) (by omega))) ?_ | refine WL_x (x_load Try.underlying5 rfl rfl (H.onum (.succ (.succ .zero)) (by omega) (by omega))) ?_
                  refine WL_x (x_binop rfl rfl (r_geq _ _ _ _)) ?_
                  refine WL_x (x_move (v := .bool _) rfl) ?_
                  first | refine WL_cased (t := 67) rfl (fun h67 => ?_) (fun h67 => ?_) | refine WL_casen (t := 67) rfl (fun h67 => ?_) (fun h67 => ?_) | refine WL_case (t := 67) rfl (fun h67 => ?_) (fun h67 => ?_)
                  · refine WL_guard_yes rfl rfl rfl ?_
                    refine WL_x (x_fieldAddr (n := 0) (o' := 3) Try.underlying79 rfl (by kernel_rfl) rfl rfl) ?_
                    refine WL_guard_yes rfl rfl rfl ?_
                    first | refine WL_x (x_load (v := .int .u8 _) Try.underlying5 rfl rfl (H.cellAt .zero rfl)) ?_ | refine WL_x (x_load (v := .int .u8 _) Try.underlying5 rfl rfl (H.cellAt (.succ .zero) rfl)) ?_ | refine WL_x (x_load (v := .int .u8 _) Try.underlying5 rfl rfl (H.cellAt (.succ (.succ .zero)) rfl)) ?_ | refine WL_x (x_load (v := .int .u8 _) Try.underlying5 rfl rfl (H.cellAt (.succ (.succ (.succ .zero))) rfl)) ?_ | refine WL_x (x_load (v := .int .u8 _) Try.underlying5 rfl rfl (H.cellAt (.succ (.succ (.succ (.succ .zero)))) rfl)) ?_ | refine WL_x (x_load Try.underlying5 rfl rfl (H.rnum .zero (by omega) (by omega))) ?_ | refine WL_x (x_load Try.underlying5 rfl rfl (H.rnum (.succ .zero) (by omega) (by omega))) ?_ | refine WL_x (x_load Try.underlying5 rfl rfl (H.rnum (.succ (.succ .zero)) (by omega) (by omega))) ?_ | refine WL_x (x_load Try.underlying5 rfl rfl (H.onum .zero (by omega) (by omega))) ?_ | refine WL_x (x_load Try.underlying5 rfl rfl (H.onum (.succ .zero) (by omega) (by omega))) ?_ | refine WL_x (x_load Try.underlying5 rfl rfl (H.onum (.succ (.succ .zero)) (by omega) (by omega))) ?_
                    refine WL_guard_yes rfl rfl rfl ?_
                    refine WL_x (x_binop rfl rfl (r_leq _ _ _ _)) ?_
                    refine WL_x (x_pick (v := .bool _) rfl rfl) ?_
                    refine WL_x (x_assign (v := .bool _) rfl) ?_
                    refine WL_nil ?_
                    refine thenE_normal ?_
                    refine WC_seq ?_
                    refine WC_region ?_
                    refine WL_x (x_fieldAddr (n := 0) (o' := 1) Try.underlying79 rfl (by kernel_rfl) rfl rfl) ?_
                    first | refine WL_x (x_load (v := .int .u8 _) Try.underlying5 rfl rfl (H.cellAt .zero rfl)) ?_ | refine WL_x (x_load (v := .int .u8 _) Try.underlying5 rfl rfl (H.cellAt (.succ .zero) rfl)) ?_ | refine WL_x (x_load (v := .int .u8 _) Try.underlying5 rfl rfl (H.cellAt (.succ (.succ .zero)) rfl)) ?_ | refine WL_x (x_load (v := .int .u8 _) Try.underlying5 rfl rfl (H.cellAt (.succ (.succ (.succ .zero))) rfl)) ?_ | refine WL_x (x_load (v := .int .u8 _) Try.underlying5 rfl rfl (H.cellAt (.succ (.succ (.succ (.succ .zero)))) rfl)) ?_ | refine WL_x (x_load Try.underlying5 rfl rfl (H.rnum .zero (by omega) (by omega))) ?_ | refine WL_x (x_load Try.underlying5 rfl rfl (H.rnum (.succ .zero) (by omega) (by omega))) ?_ | refine WL_x (x_load Try.underlying5 rfl rfl (H.rnum (.succ (.succ .zero)) (by omega) (by omega))) ?_ | refine WL_x (x_load Try.underlying5 rfl rfl (H.onum .zero (by omega) (by omega))) ?_ | refine WL_x (x_load Try.underlying5 rfl rfl (H.onum (.succ .zero) (by omega) (by omega))) ?_ | refine WL_x (x_load Try.underlying5 rfl rfl (H.onum (.succ (.succ .zero)) (by omega) (by omega))) ?_
                    refine WL_x (x_fieldAddr (n := 0) (o' := 2) Try.underlying79 rfl (by kernel_rfl) rfl rfl) ?_
                    first | refine WL_x (x_load (v := .int .u8 _) Try.underlying5 rfl rfl (H.cellAt .zero rfl)) ?_ | refine WL_x (x_load (v := .int .u8 _) Try.underlying5 rfl rfl (H.cellAt (.succ .zero) rfl)) ?_ | refine WL_x (x_load (v := .int .u8 _) Try.underlying5 rfl rfl (H.cellAt (.succ (.succ .zero)) rfl)) ?_ | refine WL_x (x_load (v := .int .u8 _) Try.underlying5 rfl rfl (H.cellAt (.succ (.succ (.succ .zero))) rfl)) ?_ | refine WL_x (x_load (v := .int .u8 _) Try.underlying5 rfl rfl (H.cellAt (.succ (.succ (.succ (.succ .zero)))) rfl)) ?_ | refine WL_x (x_load Try.underlying5 rfl rfl (H.rnum .zero (by omega) (by omega))) ?_ | refine WL_x (x_load Try.underlying5 rfl rfl (H.rnum (.succ .zero) (by omega) (by omega))) ?_ | refine WL_x (x_load Try.underlying5 rfl rfl (H.rnum (.succ (.succ .zero)) (by omega) (by omega))) ?_ | refine WL_x (x_load Try.underlying5 rfl rfl (H.onum .zero (by omega) (by omega))) ?_ | refine WL_x (x_load Try.underlying5 rfl rfl (H.onum (.succ .zero) (by omega) (by omega))) ?_ | refine WL_x (x_load Try.underlying5 rfl rfl (H.onum (.succ (.succ .zero)) (by omega) (by omega))) ?_
                    refine WL_x (x_binop rfl rfl (r_or _ _ _ _)) ?_
                    refine WL_call (vs := [(.bool false), .int .u8 _]) Try.func53 rfl rfl rfl (register_ok _ _ _) ?_
                    rintro _ w ⟨rfl, hf⟩
                    refine ⟨_, rfl, ?_⟩
                    replace H := H.quiet hf
                    refine WL_x (x_move (v := .bool _) rfl) ?_
                    first | refine WL_cased (t := 78) rfl (fun h78 => ?_) (fun h78 => ?_) | refine WL_casen (t := 78) rfl (fun h78 => ?_) (fun h78 => ?_) | refine WL_case (t := 78) rfl (fun h78 => ?_) (fun h78 => ?_)
                    · refine WL_guard_yes rfl rfl rfl ?_
                      refine WL_x (x_move (v := .bool _) rfl) ?_
                      refine WL_x (x_pick (v := .bool _) rfl rfl) ?_
                      refine WL_x (x_move (v := .bool _) rfl) ?_
                      first | refine WL_cased (t := 81) rfl (fun h81 => ?_) (fun h81 => ?_) | refine WL_casen (t := 81) rfl (fun h81 => ?_) (fun h81 => ?_) | refine WL_case (t := 81) rfl (fun h81 => ?_) (fun h81 => ?_)
                      · refine WL_guard_yes rfl rfl rfl ?_
                        refine WL_x (x_move (v := .int .i64 _) rfl) ?_
                        refine WL_guard_yes rfl rfl rfl ?_
                        refine WL_x (x_binop rfl rfl (r_geq _ _ _ _)) ?_
                        refine WL_x (x_pick (v := .bool _) rfl rfl) ?_
                        refine WL_x (x_move (v := .bool _) rfl) ?_
                        first | refine WL_cased (t := 85) rfl (fun h85 => ?_) (fun h85 => ?_) | refine WL_casen (t := 85) rfl (fun h85 => ?_) (fun h85 => ?_) | refine WL_case (t := 85) rfl (fun h85 => ?_) (fun h85 => ?_)
                        · refine WL_guard_yes rfl rfl rfl ?_
                          refine WL_x (x_move (v := .int .i64 _) rfl) ?_
                          refine WL_guard_yes rfl rfl rfl ?_
                          refine WL_x (x_fieldAddr (n := 0) (o' := 3) Try.underlying79 rfl (by kernel_rfl) rfl rfl) ?_
                          refine WL_guard_yes rfl rfl rfl ?_
                          first | refine WL_x (x_load (v := .int .u8 _) Try.underlying5 rfl rfl (H.cellAt .zero rfl)) ?_ | refine WL_x (x_load (v := .int .u8 _) Try.underlying5 rfl rfl (H.cellAt (.succ .zero) rfl)) ?_ | refine WL_x (x_load (v := .int .u8 _) Try.underlying5 rfl rfl (H.cellAt (.succ (.succ .zero)) rfl)) ?_ | refine WL_x (x_load (v := .int .u8 _) Try.underlying5 rfl rfl (H.cellAt (.succ (.succ (.succ .zero))) rfl)) ?_ | refine WL_x (x_load (v := .int .u8 _) Try.underlying5 rfl rfl (H.cellAt (.succ (.succ (.succ (.succ .zero)))) rfl)) ?_ | refine WL_x (x_load Try.underlying5 rfl rfl (H.rnum .zero (by omega) (by omega))) ?_ | refine WL_x (x_load Try.underlying5 rfl rfl (H.rnum (.succ .zero) (by omega) (by omega))) ?_ | refine WL_x (x_load Try.underlying5 rfl rfl (H.rnum (.succ (.succ .zero)) (by omega) (by omega))) ?_ | refine WL_x (x_load Try.underlying5 rfl rfl (H.onum .zero (by omega) (by omega))) ?_ | refine WL_x (x_load Try.underlying5 rfl rfl (H.onum (.succ .zero) (by omega) (by omega))) ?_ | refine WL_x (x_load Try.underlying5 rfl rfl (H.onum (.succ (.succ .zero)) (by omega) (by omega))) ?_
                          refine WL_guard_yes rfl rfl rfl ?_
                          refine WL_x (x_convert Try.underlying5 Try.underlying2 rfl (i64_in (by omega) (by omega))) ?_
                          refine WL_guard_yes rfl rfl rfl ?_
                          refine WL_x (x_binop rfl rfl (r_add_in (i64_in (by omega) (by omega)))) ?_
                          refine WL_guard_yes rfl rfl rfl ?_
                          refine WL_x (x_move (v := .int .i64 _) rfl) ?_
                          refine WL_guard_yes rfl rfl rfl ?_
                          refine WL_x (x_binop rfl rfl (r_leq _ _ _ _)) ?_
                          refine WL_x (x_pick (v := .bool _) rfl rfl) ?_
                          refine WL_x (x_move (v := .bool _) rfl) ?_
                          first | refine WL_cased (t := 94) rfl (fun h94 => ?_) (fun h94 => ?_) | refine WL_casen (t := 94) rfl (fun h94 => ?_) (fun h94 => ?_) | refine WL_case (t := 94) rfl (fun h94 => ?_) (fun h94 => ?_)
                          · refine WL_guard_yes rfl rfl rfl ?_
                            refine WL_x (x_fieldAddr (n := 0) (o' := 5) Try.underlying79 rfl (by kernel_rfl) rfl rfl) ?_
                            refine WL_guard_yes rfl rfl rfl ?_
                            first | refine WL_x (x_load (v := .int .u32 _) Try.underlying62 rfl rfl (H.cellAt .zero rfl)) ?_ | refine WL_x (x_load (v := .int .u32 _) Try.underlying62 rfl rfl (H.cellAt (.succ .zero) rfl)) ?_ | refine WL_x (x_load (v := .int .u32 _) Try.underlying62 rfl rfl (H.cellAt (.succ (.succ .zero)) rfl)) ?_ | refine WL_x (x_load (v := .int .u32 _) Try.underlying62 rfl rfl (H.cellAt (.succ (.succ (.succ .zero))) rfl)) ?_ | refine WL_x (x_load (v := .int .u32 _) Try.underlying62 rfl rfl (H.cellAt (.succ (.succ (.succ (.succ .zero)))) rfl)) ?_ | refine WL_x (x_load Try.underlying62 rfl rfl (H.rnum .zero (by omega) (by omega))) ?_ | refine WL_x (x_load Try.underlying62 rfl rfl (H.rnum (.succ .zero) (by omega) (by omega))) ?_ | refine WL_x (x_load Try.underlying62 rfl rfl (H.rnum (.succ (.succ .zero)) (by omega) (by omega))) ?_ | refine WL_x (x_load Try.underlying62 rfl rfl (H.onum .zero (by omega) (by omega))) ?_ | refine WL_x (x_load Try.underlying62 rfl rfl (H.onum (.succ .zero) (by omega) (by omega))) ?_ | refine WL_x (x_load Try.underlying62 rfl rfl (H.onum (.succ (.succ .zero)) (by omega) (by omega))) ?_
                            refine WL_guard_yes rfl rfl rfl ?_
                            refine WL_x (x_binop rfl rfl (r_eql _ _ _ _)) ?_
                            refine WL_x (x_pick (v := .bool _) rfl rfl) ?_
                            refine WL_x (x_assign (v := .bool _) rfl) ?_
                            refine WL_nil ?_
                            refine thenE_normal ?_
                            refine WC_ret ?_
                            refine inBlockE_ret ?_
                            refine thenE_ret ?_
                            refine ends1 (v := .bool _) Try.results40 rfl ?_
                            refine ⟨congrArg (fun b => Ending.returned (Value.bool b)) ?_, H.fr⟩
                            unfold rightB
                            first
                              | rw [if_pos h17]
                              | (rw [if_neg h17, hud]
                                 clear hu hud hop H hlen hcells hplayers op0 op1 a0 a1 b0 b1 c0 c1 n0 n1 m0 m1
                                 dsimp only at *
                                 first | rw [if_neg hk6] | rw [if_pos h62]
                                 simp [*])
                          · refine WL_guard_no rfl rfl rfl ?_
                            refine WL_guard_no rfl rfl rfl ?_
                            refine WL_guard_no rfl rfl rfl ?_
                            refine WL_x (x_pick (v := .bool _) rfl rfl) ?_
                            refine WL_x (x_assign (v := .bool _) rfl) ?_
                            refine WL_nil ?_
                            refine thenE_normal ?_
                            refine WC_ret ?_
                            refine inBlockE_ret ?_
                            refine thenE_ret ?_
                            refine ends1 (v := .bool _) Try.results40 rfl ?_
                            refine ⟨congrArg (fun b => Ending.returned (Value.bool b)) ?_, H.fr⟩
                            unfold rightB
                            first
                              | rw [if_pos h17]
                              | (rw [if_neg h17, hud]
                                 clear hu hud hop H hlen hcells hplayers op0 op1 a0 a1 b0 b1 c0 c1 n0 n1 m0 m1
                                 dsimp only at *
                                 first | rw [if_neg hk6] | rw [if_pos h62]
                                 simp [*])
                        · refine WL_guard_no rfl rfl rfl ?_
                          refine WL_guard_no rfl rfl rfl ?_
                          refine WL_guard_no rfl rfl rfl ?_
                          refine WL_guard_no rfl rfl rfl ?_
                          refine WL_guard_no rfl rfl rfl ?_
                          refine WL_guard_no rfl rfl rfl ?_
                          refine WL_guard_no rfl rfl rfl ?_
                          refine WL_x (x_pick (v := .bool _) rfl rfl) ?_
                          refine WL_x (x_move (v := .bool _) rfl) ?_
                          refine WL_guard_no rfl rfl rfl ?_
                          refine WL_guard_no rfl rfl rfl ?_
                          refine WL_guard_no rfl rfl rfl ?_
                          refine WL_x (x_pick (v := .bool _) rfl rfl) ?_
                          refine WL_x (x_assign (v := .bool _) rfl) ?_
                          refine WL_nil ?_
                          refine thenE_normal ?_
                          refine WC_ret ?_
                          refine inBlockE_ret ?_
                          refine thenE_ret ?_
                          refine ends1 (v := .bool _) Try.results40 rfl ?_
                          refine ⟨congrArg (fun b => Ending.returned (Value.bool b)) ?_, H.fr⟩
                          unfold rightB
                          first
                            | rw [if_pos h17]
                            | (rw [if_neg h17, hud]
                               clear hu hud hop H hlen hcells hplayers op0 op1 a0 a1 b0 b1 c0 c1 n0 n1 m0 m1
                               dsimp only at *
                               first | rw [if_neg hk6] | rw [if_pos h62]
                               simp [*])
                      · refine WL_guard_no rfl rfl rfl ?_
                        refine WL_guard_no rfl rfl rfl ?_
                        refine WL_x (x_pick (v := .bool _) rfl rfl) ?_
                        refine WL_x (x_move (v := .bool _) rfl) ?_
                        refine WL_guard_no rfl rfl rfl ?_
                        refine WL_guard_no rfl rfl rfl ?_
                        refine WL_guard_no rfl rfl rfl ?_
                        refine WL_guard_no rfl rfl rfl ?_
                        refine WL_guard_no rfl rfl rfl ?_
                        refine WL_guard_no rfl rfl rfl ?_
                        refine WL_guard_no rfl rfl rfl ?_
                        refine WL_x (x_pick (v := .bool _) rfl rfl) ?_
                        refine WL_x (x_move (v := .bool _) rfl) ?_
                        refine WL_guard_no rfl rfl rfl ?_
                        refine WL_guard_no rfl rfl rfl ?_
                        refine WL_guard_no rfl rfl rfl ?_
                        refine WL_x (x_pick (v := .bool _) rfl rfl) ?_
                        refine WL_x (x_assign (v := .bool _) rfl) ?_
                        refine WL_nil ?_
                        refine thenE_normal ?_
                        refine WC_ret ?_
                        refine inBlockE_ret ?_
                        refine thenE_ret ?_
                        refine ends1 (v := .bool _) Try.results40 rfl ?_
                        refine ⟨congrArg (fun b => Ending.returned (Value.bool b)) ?_, H.fr⟩
                        unfold rightB
                        first
                          | rw [if_pos h17]
                          | (rw [if_neg h17, hud]
                             clear hu hud hop H hlen hcells hplayers op0 op1 a0 a1 b0 b1 c0 c1 n0 n1 m0 m1
                             dsimp only at *
                             first | rw [if_neg hk6] | rw [if_pos h62]
                             simp [*])
                    · refine WL_guard_no rfl rfl rfl ?_
                      refine WL_x (x_pick (v := .bool _) rfl rfl) ?_
                      refine WL_x (x_move (v := .bool _) rfl) ?_
                      refine WL_guard_no rfl rfl rfl ?_
                      refine WL_guard_no rfl rfl rfl ?_
                      refine WL_x (x_pick (v := .bool _) rfl rfl) ?_
                      refine WL_x (x_move (v := .bool _) rfl) ?_
                      refine WL_guard_no rfl rfl rfl ?_
                      refine WL_guard_no rfl rfl rfl ?_
                      refine WL_guard_no rfl rfl rfl ?_
                      refine WL_guard_no rfl rfl rfl ?_
                      refine WL_guard_no rfl rfl rfl ?_
                      refine WL_guard_no rfl rfl rfl ?_
                      refine WL_guard_no rfl rfl rfl ?_
                      refine WL_x (x_pick (v := .bool _) rfl rfl) ?_
                      refine WL_x (x_move (v := .bool _) rfl) ?_
                      refine WL_guard_no rfl rfl rfl ?_
                      refine WL_guard_no rfl rfl rfl ?_
                      refine WL_guard_no rfl rfl rfl ?_
                      refine WL_x (x_pick (v := .bool _) rfl rfl) ?_
                      refine WL_x (x_assign (v := .bool _) rfl) ?_
                      refine WL_nil ?_
                      refine thenE_normal ?_
                      refine WC_ret ?_
                      refine inBlockE_ret ?_
                      refine thenE_ret ?_
                      refine ends1 (v := .bool _) Try.results40 rfl ?_
                      refine ⟨congrArg (fun b => Ending.returned (Value.bool b)) ?_, H.fr⟩
                      unfold rightB
                      first
                        | rw [if_pos h17]
                        | (rw [if_neg h17, hud]
                           clear hu hud hop H hlen hcells hplayers op0 op1 a0 a1 b0 b1 c0 c1 n0 n1 m0 m1
                           dsimp only at *
                           first | rw [if_neg hk6] | rw [if_pos h62]
                           simp [*])
                  · refine WL_guard_no rfl rfl rfl ?_
                    refine WL_guard_no rfl rfl rfl ?_
                    refine WL_guard_no rfl rfl rfl ?_
                    refine WL_x (x_pick (v := .bool _) rfl rfl) ?_
                    refine WL_x (x_assign (v := .bool _) rfl) ?_
                    refine WL_nil ?_
                    refine thenE_normal ?_
                    refine WC_seq ?_
                    refine WC_region ?_
                    refine WL_x (x_fieldAddr (n := 0) (o' := 1) Try.underlying79 rfl (by kernel_rfl) rfl rfl) ?_
                    first | refine WL_x (x_load (v := .int .u8 _) Try.underlying5 rfl rfl (H.cellAt .zero rfl)) ?_ | refine WL_x (x_load (v := .int .u8 _) Try.underlying5 rfl rfl (H.cellAt (.succ .zero) rfl)) ?_ | refine WL_x (x_load (v := .int .u8 _) Try.underlying5 rfl rfl (H.cellAt (.succ (.succ .zero)) rfl)) ?_ | refine WL_x (x_load (v := .int .u8 _) Try.underlying5 rfl rfl (H.cellAt (.succ (.succ (.succ .zero))) rfl)) ?_ | refine WL_x (x_load (v := .int .u8 _) Try.underlying5 rfl rfl (H.cellAt (.succ (.succ (.succ (.succ .zero)))) rfl)) ?_ | refine WL_x (x_load Try.underlying5 rfl rfl (H.rnum .zero (by omega) (by omega))) ?_ | refine WL_x (x_load Try.underlying5 rfl rfl (H.rnum (.succ .zero) (by omega) (by omega))) ?_ | refine WL_x (x_load Try.underlying5 rfl rfl (H.rnum (.succ (.succ .zero)) (by omega) (by omega))) ?_ | refine WL_x (x_load Try.underlying5 rfl rfl (H.onum .zero (by omega) (by omega))) ?_ | refine WL_x (x_load Try.underlying5 rfl rfl (H.onum (.succ .zero) (by omega) (by omega))) ?_ | refine WL_x (x_load Try.underlying5 rfl rfl (H.onum (.succ (.succ .zero)) (by omega) (by omega))) ?_
                    refine WL_x (x_fieldAddr (n := 0) (o' := 2) Try.underlying79 rfl (by kernel_rfl) rfl rfl) ?_
                    first | refine WL_x (x_load (v := .int .u8 _) Try.underlying5 rfl rfl (H.cellAt .zero rfl)) ?_ | refine WL_x (x_load (v := .int .u8 _) Try.underlying5 rfl rfl (H.cellAt (.succ .zero) rfl)) ?_ | refine WL_x (x_load (v := .int .u8 _) Try.underlying5 rfl rfl (H.cellAt (.succ (.succ .zero)) rfl)) ?_ | refine WL_x (x_load (v := .int .u8 _) Try.underlying5 rfl rfl (H.cellAt (.succ (.succ (.succ .zero))) rfl)) ?_ | refine WL_x (x_load (v := .int .u8 _) Try.underlying5 rfl rfl (H.cellAt (.succ (.succ (.succ (.succ .zero)))) rfl)) ?_ | refine WL_x (x_load Try.underlying5 rfl rfl (H.rnum .zero (by omega) (by omega))) ?_ | refine WL_x (x_load Try.underlying5 rfl rfl (H.rnum (.succ .zero) (by omega) (by omega))) ?_ | refine WL_x (x_load Try.underlying5 rfl rfl (H.rnum (.succ (.succ .zero)) (by omega) (by omega))) ?_ | refine WL_x (x_load Try.underlying5 rfl rfl (H.onum .zero (by omega) (by omega))) ?_ | refine WL_x (x_load Try.underlying5 rfl rfl (H.onum (.succ .zero) (by omega) (by omega))) ?_ | refine WL_x (x_load Try.underlying5 rfl rfl (H.onum (.succ (.succ .zero)) (by omega) (by omega))) ?_
                    refine WL_x (x_binop rfl rfl (r_or _ _ _ _)) ?_
                    refine WL_call (vs := [(.bool false), .int .u8 _]) Try.func53 rfl rfl rfl (register_ok _ _ _) ?_
                    rintro _ w ⟨rfl, hf⟩
                    refine ⟨_, rfl, ?_⟩
                    replace H := H.quiet hf
                    refine WL_x (x_move (v := .bool _) rfl) ?_
                    first | refine WL_cased (t := 78) rfl (fun h78 => ?_) (fun h78 => ?_) | refine WL_casen (t := 78) rfl (fun h78 => ?_) (fun h78 => ?_) | refine WL_case (t := 78) rfl (fun h78 => ?_) (fun h78 => ?_)
                    · refine WL_guard_yes rfl rfl rfl ?_
                      refine WL_x (x_move (v := .bool _) rfl) ?_
                      refine WL_x (x_pick (v := .bool _) rfl rfl) ?_
                      refine WL_x (x_move (v := .bool _) rfl) ?_
                      refine WL_guard_no rfl rfl rfl ?_
                      refine WL_guard_no rfl rfl rfl ?_
                      refine WL_x (x_pick (v := .bool _) rfl rfl) ?_
                      refine WL_x (x_move (v := .bool _) rfl) ?_
                      refine WL_guard_no rfl rfl rfl ?_
                      refine WL_guard_no rfl rfl rfl ?_
                      refine WL_guard_no rfl rfl rfl ?_
                      refine WL_guard_no rfl rfl rfl ?_
                      refine WL_guard_no rfl rfl rfl ?_
                      refine WL_guard_no rfl rfl rfl ?_
                      refine WL_guard_no rfl rfl rfl ?_
                      refine WL_x (x_pick (v := .bool _) rfl rfl) ?_
                      refine WL_x (x_move (v := .bool _) rfl) ?_
                      refine WL_guard_no rfl rfl rfl ?_
                      refine WL_guard_no rfl rfl rfl ?_
                      refine WL_guard_no rfl rfl rfl ?_
                      refine WL_x (x_pick (v := .bool _) rfl rfl) ?_
                      refine WL_x (x_assign (v := .bool _) rfl) ?_
                      refine WL_nil ?_
                      refine thenE_normal ?_
                      refine WC_ret ?_
                      refine inBlockE_ret ?_
                      refine thenE_ret ?_
                      refine ends1 (v := .bool _) Try.results40 rfl ?_
                      refine ⟨congrArg (fun b => Ending.returned (Value.bool b)) ?_, H.fr⟩
                      unfold rightB
                      first
                        | rw [if_pos h17]
                        | (rw [if_neg h17, hud]
                           clear hu hud hop H hlen hcells hplayers op0 op1 a0 a1 b0 b1 c0 c1 n0 n1 m0 m1
                           dsimp only at *
                           first | rw [if_neg hk6] | rw [if_pos h62]
                           simp [*])
                    · refine WL_guard_no rfl rfl rfl ?_
                      refine WL_x (x_pick (v := .bool _) rfl rfl) ?_
                      refine WL_x (x_move (v := .bool _) rfl) ?_
                      refine WL_guard_no rfl rfl rfl ?_
                      refine WL_guard_no rfl rfl rfl ?_
                      refine WL_x (x_pick (v := .bool _) rfl rfl) ?_
                      refine WL_x (x_move (v := .bool _) rfl) ?_
                      refine WL_guard_no rfl rfl rfl ?_
                      refine WL_guard_no rfl rfl rfl ?_
                      refine WL_guard_no rfl rfl rfl ?_
                      refine WL_guard_no rfl rfl rfl ?_
                      refine WL_guard_no rfl rfl rfl ?_
                      refine WL_guard_no rfl rfl rfl ?_
                      refine WL_guard_no rfl rfl rfl ?_
                      refine WL_x (x_pick (v := .bool _) rfl rfl) ?_
                      refine WL_x (x_move (v := .bool _) rfl) ?_
                      refine WL_guard_no rfl rfl rfl ?_
                      refine WL_guard_no rfl rfl rfl ?_
                      refine WL_guard_no rfl rfl rfl ?_
                      refine WL_x (x_pick (v := .bool _) rfl rfl) ?_
                      refine WL_x (x_assign (v := .bool _) rfl) ?_
                      refine WL_nil ?_
                      refine thenE_normal ?_
                      refine WC_ret ?_
                      refine inBlockE_ret ?_
                      refine thenE_ret ?_
                      refine ends1 (v := .bool _) Try.results40 rfl ?_
                      refine ⟨congrArg (fun b => Ending.returned (Value.bool b)) ?_, H.fr⟩
                      unfold rightB
                      first
                        | rw [if_pos h17]
                        | (rw [if_neg h17, hud]
                           clear hu hud hop H hlen hcells hplayers op0 op1 a0 a1 b0 b1 c0 c1 n0 n1 m0 m1
                           dsimp only at *
                           first | rw [if_neg hk6] | rw [if_pos h62]
                           simp [*])
                · refine WC_skip ?_
                  refine inBlockE_normal ?_
                  refine thenE_normal ?_
                  clear hu hud hop hlen hcells hplayers op0 op1 a0 a1 b0 b1 c0 c1 n0 n1 m0 m1
                  try dsimp only at *
                  first
                    | exact ⟨(), by show Value.bool _ = _; clear H; simp [kindB, *], by omega, rfl, rfl, H⟩
                    | exact ⟨(), by show Value.bool _ = _; clear H; simp [kindB, *], by assumption, rfl, rfl, H⟩
    · clear H
      rintro _ f w ⟨h13, hk6, h5, h11, H⟩
      rw [← upd_self h13, ← upd_self h5, ← upd_self h11]
      refine WC_seq ?_
      refine WC_region ?_
      refine WL_x (x_move (v := .bool _) rfl) ?_
      refine WL_x (x_move (v := .bool _) rfl) ?_
      first | refine WL_cased (t := 100) rfl (fun h100 => ?_) (fun h100 => ?_) | refine WL_casen (t := 100) rfl (fun h100 => ?_) (fun h100 => ?_) | refine WL_case (t := 100) rfl (fun h100 => ?_) (fun h100 => ?_)
      · refine WL_guard_yes rfl rfl rfl ?_
        refine WL_x (x_fieldAddr (n := 0) (o' := 0) Try.underlying97 rfl (by kernel_rfl) rfl rfl) ?_
        refine WL_guard_yes rfl rfl rfl ?_
        first | refine WL_x (x_load (v := .bool _) Try.underlying4 rfl rfl (H.cellAt .zero rfl)) ?_ | refine WL_x (x_load (v := .bool _) Try.underlying4 rfl rfl (H.cellAt (.succ .zero) rfl)) ?_ | refine WL_x (x_load (v := .bool _) Try.underlying4 rfl rfl (H.cellAt (.succ (.succ .zero)) rfl)) ?_ | refine WL_x (x_load (v := .bool _) Try.underlying4 rfl rfl (H.cellAt (.succ (.succ (.succ .zero))) rfl)) ?_ | refine WL_x (x_load (v := .bool _) Try.underlying4 rfl rfl (H.cellAt (.succ (.succ (.succ (.succ .zero)))) rfl)) ?_
        refine WL_guard_yes rfl rfl rfl ?_
        refine WL_x (x_fieldAddr (n := 0) (o' := 1) Try.underlying79 rfl (by kernel_rfl) rfl rfl) ?_
        refine WL_guard_yes rfl rfl rfl ?_
        first | refine WL_x (x_load (v := .int .u8 _) Try.underlying5 rfl rfl (H.cellAt .zero rfl)) ?_ | refine WL_x (x_load (v := .int .u8 _) Try.underlying5 rfl rfl (H.cellAt (.succ .zero) rfl)) ?_ | refine WL_x (x_load (v := .int .u8 _) Try.underlying5 rfl rfl (H.cellAt (.succ (.succ .zero)) rfl)) ?_ | refine WL_x (x_load (v := .int .u8 _) Try.underlying5 rfl rfl (H.cellAt (.succ (.succ (.succ .zero))) rfl)) ?_ | refine WL_x (x_load (v := .int .u8 _) Try.underlying5 rfl rfl (H.cellAt (.succ (.succ (.succ (.succ .zero)))) rfl)) ?_ | refine WL_x (x_load Try.underlying5 rfl rfl (H.rnum .zero (by omega) (by omega))) ?_ | refine WL_x (x_load Try.underlying5 rfl rfl (H.rnum (.succ .zero) (by omega) (by omega))) ?_ | refine WL_x (x_load Try.underlying5 rfl rfl (H.rnum (.succ (.succ .zero)) (by omega) (by omega))) ?_ | refine WL_x (x_load Try.underlying5 rfl rfl (H.onum .zero (by omega) (by omega))) ?_ | refine WL_x (x_load Try.underlying5 rfl rfl (H.onum (.succ .zero) (by omega) (by omega))) ?_ | refine WL_x (x_load Try.underlying5 rfl rfl (H.onum (.succ (.succ .zero)) (by omega) (by omega))) ?_
        refine WL_guard_yes rfl rfl rfl ?_
        refine WL_call (vs := [.bool _, .int .u8 _]) Try.func53 rfl rfl rfl (register_ok _ _ _) ?_
        rintro _ w ⟨rfl, hf⟩
        refine ⟨_, rfl, ?_⟩
        replace H := H.quiet hf
        refine WL_x (x_pick (v := .bool _) rfl rfl) ?_
        refine WL_x (x_move (v := .bool _) rfl) ?_
        first | refine WL_cased (t := 107) rfl (fun h107 => ?_) (fun h107 => ?_) | refine WL_casen (t := 107) rfl (fun h107 => ?_) (fun h107 => ?_) | refine WL_case (t := 107) rfl (fun h107 => ?_) (fun h107 => ?_)
        · refine WL_guard_yes rfl rfl rfl ?_
          refine WL_x (x_fieldAddr (n := 0) (o' := 1) Try.underlying97 rfl (by kernel_rfl) rfl rfl) ?_
          refine WL_guard_yes rfl rfl rfl ?_
          first | refine WL_x (x_load (v := .bool _) Try.underlying4 rfl rfl (H.cellAt .zero rfl)) ?_ | refine WL_x (x_load (v := .bool _) Try.underlying4 rfl rfl (H.cellAt (.succ .zero) rfl)) ?_ | refine WL_x (x_load (v := .bool _) Try.underlying4 rfl rfl (H.cellAt (.succ (.succ .zero)) rfl)) ?_ | refine WL_x (x_load (v := .bool _) Try.underlying4 rfl rfl (H.cellAt (.succ (.succ (.succ .zero))) rfl)) ?_ | refine WL_x (x_load (v := .bool _) Try.underlying4 rfl rfl (H.cellAt (.succ (.succ (.succ (.succ .zero)))) rfl)) ?_
          refine WL_guard_yes rfl rfl rfl ?_
          refine WL_x (x_fieldAddr (n := 0) (o' := 2) Try.underlying79 rfl (by kernel_rfl) rfl rfl) ?_
          refine WL_guard_yes rfl rfl rfl ?_
          first | refine WL_x (x_load (v := .int .u8 _) Try.underlying5 rfl rfl (H.cellAt .zero rfl)) ?_ | refine WL_x (x_load (v := .int .u8 _) Try.underlying5 rfl rfl (H.cellAt (.succ .zero) rfl)) ?_ | refine WL_x (x_load (v := .int .u8 _) Try.underlying5 rfl rfl (H.cellAt (.succ (.succ .zero)) rfl)) ?_ | refine WL_x (x_load (v := .int .u8 _) Try.underlying5 rfl rfl (H.cellAt (.succ (.succ (.succ .zero))) rfl)) ?_ | refine WL_x (x_load (v := .int .u8 _) Try.underlying5 rfl rfl (H.cellAt (.succ (.succ (.succ (.succ .zero)))) rfl)) ?_ | refine WL_x (x_load Try.underlying5 rfl rfl (H.rnum .zero (by omega) (by omega))) ?_ | refine WL_x (x_load Try.underlying5 rfl rfl (H.rnum (.succ .zero) (by omega) (by omega))) ?_ | refine WL_x (x_load Try.underlying5 rfl rfl (H.rnum (.succ (.succ .zero)) (by omega) (by omega))) ?_ | refine WL_x (x_load Try.underlying5 rfl rfl (H.onum .zero (by omega) (by omega))) ?_ | refine WL_x (x_load Try.underlying5 rfl rfl (H.onum (.succ .zero) (by omega) (by omega))) ?_ | refine WL_x (x_load Try.underlying5 rfl rfl (H.onum (.succ (.succ .zero)) (by omega) (by omega))) ?_
          refine WL_guard_yes rfl rfl rfl ?_
          refine WL_call (vs := [.bool _, .int .u8 _]) Try.func53 rfl rfl rfl (register_ok _ _ _) ?_
          rintro _ w ⟨rfl, hf⟩
          refine ⟨_, rfl, ?_⟩
          replace H := H.quiet hf
          refine WL_x (x_pick (v := .bool _) rfl rfl) ?_
          refine WL_x (x_move (v := .bool _) rfl) ?_
          first | refine WL_cased (t := 114) rfl (fun h114 => ?_) (fun h114 => ?_) | refine WL_casen (t := 114) rfl (fun h114 => ?_) (fun h114 => ?_) | refine WL_case (t := 114) rfl (fun h114 => ?_) (fun h114 => ?_)
          · refine WL_guard_yes rfl rfl rfl ?_
            refine WL_x (x_fieldAddr (n := 0) (o' := 2) Try.underlying97 rfl (by kernel_rfl) rfl rfl) ?_
            refine WL_guard_yes rfl rfl rfl ?_
            first | refine WL_x (x_load (v := .bool _) Try.underlying4 rfl rfl (H.cellAt .zero rfl)) ?_ | refine WL_x (x_load (v := .bool _) Try.underlying4 rfl rfl (H.cellAt (.succ .zero) rfl)) ?_ | refine WL_x (x_load (v := .bool _) Try.underlying4 rfl rfl (H.cellAt (.succ (.succ .zero)) rfl)) ?_ | refine WL_x (x_load (v := .bool _) Try.underlying4 rfl rfl (H.cellAt (.succ (.succ (.succ .zero))) rfl)) ?_ | refine WL_x (x_load (v := .bool _) Try.underlying4 rfl rfl (H.cellAt (.succ (.succ (.succ (.succ .zero)))) rfl)) ?_
            refine WL_guard_yes rfl rfl rfl ?_
            refine WL_x (x_fieldAddr (n := 0) (o' := 3) Try.underlying79 rfl (by kernel_rfl) rfl rfl) ?_
            refine WL_guard_yes rfl rfl rfl ?_
            first | refine WL_x (x_load (v := .int .u8 _) Try.underlying5 rfl rfl (H.cellAt .zero rfl)) ?_ | refine WL_x (x_load (v := .int .u8 _) Try.underlying5 rfl rfl (H.cellAt (.succ .zero) rfl)) ?_ | refine WL_x (x_load (v := .int .u8 _) Try.underlying5 rfl rfl (H.cellAt (.succ (.succ .zero)) rfl)) ?_ | refine WL_x (x_load (v := .int .u8 _) Try.underlying5 rfl rfl (H.cellAt (.succ (.succ (.succ .zero))) rfl)) ?_ | refine WL_x (x_load (v := .int .u8 _) Try.underlying5 rfl rfl (H.cellAt (.succ (.succ (.succ (.succ .zero)))) rfl)) ?_ | refine WL_x (x_load Try.underlying5 rfl rfl (H.rnum .zero (by omega) (by omega))) ?_ | refine WL_x (x_load Try.underlying5 rfl rfl (H.rnum (.succ .zero) (by omega) (by omega))) ?_ | refine WL_x (x_load Try.underlying5 rfl rfl (H.rnum (.succ (.succ .zero)) (by omega) (by omega))) ?_ | refine WL_x (x_load Try.underlying5 rfl rfl (H.onum .zero (by omega) (by omega))) ?_ | refine WL_x (x_load Try.underlying5 rfl rfl (H.onum (.succ .zero) (by omega) (by omega))) ?_ | refine WL_x (x_load Try.underlying5 rfl rfl (H.onum (.succ (.succ .zero)) (by omega) (by omega))) ?_
            refine WL_guard_yes rfl rfl rfl ?_
            refine WL_call (vs := [.bool _, .int .u8 _]) Try.func53 rfl rfl rfl (register_ok _ _ _) ?_
            rintro _ w ⟨rfl, hf⟩
            refine ⟨_, rfl, ?_⟩
            replace H := H.quiet hf
            refine WL_x (x_pick (v := .bool _) rfl rfl) ?_
            refine WL_x (x_move (v := .bool _) rfl) ?_
            first | refine WL_cased (t := 121) rfl (fun h121 => ?_) (fun h121 => ?_) | refine WL_casen (t := 121) rfl (fun h121 => ?_) (fun h121 => ?_) | refine WL_case (t := 121) rfl (fun h121 => ?_) (fun h121 => ?_)
            · refine WL_guard_yes rfl rfl rfl ?_
              refine WL_x (x_fieldAddr (n := 0) (o' := 4) Try.underlying97 rfl (by kernel_rfl) rfl rfl) ?_
              refine WL_guard_yes rfl rfl rfl ?_
              first | refine WL_x (x_load (v := .bool _) Try.underlying4 rfl rfl (H.cellAt .zero rfl)) ?_ | refine WL_x (x_load (v := .bool _) Try.underlying4 rfl rfl (H.cellAt (.succ .zero) rfl)) ?_ | refine WL_x (x_load (v := .bool _) Try.underlying4 rfl rfl (H.cellAt (.succ (.succ .zero)) rfl)) ?_ | refine WL_x (x_load (v := .bool _) Try.underlying4 rfl rfl (H.cellAt (.succ (.succ (.succ .zero))) rfl)) ?_ | refine WL_x (x_load (v := .bool _) Try.underlying4 rfl rfl (H.cellAt (.succ (.succ (.succ (.succ .zero)))) rfl)) ?_
              refine WL_guard_yes rfl rfl rfl ?_
              refine WL_x (x_move (v := .bool _) rfl) ?_
              first | refine WL_cased (t := 124) rfl (fun h124 => ?_) (fun h124 => ?_) | refine WL_casen (t := 124) rfl (fun h124 => ?_) (fun h124 => ?_) | refine WL_case (t := 124) rfl (fun h124 => ?_) (fun h124 => ?_)
              · refine WL_guard_no rfl rfl rfl ?_
                refine WL_guard_no rfl rfl rfl ?_
                refine WL_guard_no rfl rfl rfl ?_
                refine WL_guard_yes rfl rfl rfl ?_
                refine WL_x (x_pick (v := .bool _) rfl rfl) ?_
                refine WL_x (x_pick (v := .bool _) rfl rfl) ?_
                refine WL_x (x_assign (v := .bool _) rfl) ?_
                refine WL_nil ?_
                refine thenE_normal ?_
                refine WC_ret ?_
                refine ends1 (v := .bool _) Try.results40 rfl ?_
                refine ⟨congrArg (fun b => Ending.returned (Value.bool b)) ?_, H.fr⟩
                unfold rightB
                first
                  | rw [if_pos h17]
                  | (rw [if_neg h17, hud]
                     clear hu hud hop H hlen hcells hplayers op0 op1 a0 a1 b0 b1 c0 c1 n0 n1 m0 m1
                     dsimp only at *
                     first | rw [if_neg hk6] | rw [if_pos h62]
                     simp [*])
              · refine WL_guard_yes rfl rfl rfl ?_
                refine WL_x (x_fieldAddr (n := 0) (o' := 5) Try.underlying79 rfl (by kernel_rfl) rfl rfl) ?_
                refine WL_guard_yes rfl rfl rfl ?_
                first | refine WL_x (x_load (v := .int .u32 _) Try.underlying62 rfl rfl (H.cellAt .zero rfl)) ?_ | refine WL_x (x_load (v := .int .u32 _) Try.underlying62 rfl rfl (H.cellAt (.succ .zero) rfl)) ?_ | refine WL_x (x_load (v := .int .u32 _) Try.underlying62 rfl rfl (H.cellAt (.succ (.succ .zero)) rfl)) ?_ | refine WL_x (x_load (v := .int .u32 _) Try.underlying62 rfl rfl (H.cellAt (.succ (.succ (.succ .zero))) rfl)) ?_ | refine WL_x (x_load (v := .int .u32 _) Try.underlying62 rfl rfl (H.cellAt (.succ (.succ (.succ (.succ .zero)))) rfl)) ?_ | refine WL_x (x_load Try.underlying62 rfl rfl (H.rnum .zero (by omega) (by omega))) ?_ | refine WL_x (x_load Try.underlying62 rfl rfl (H.rnum (.succ .zero) (by omega) (by omega))) ?_ | refine WL_x (x_load Try.underlying62 rfl rfl (H.rnum (.succ (.succ .zero)) (by omega) (by omega))) ?_ | refine WL_x (x_load Try.underlying62 rfl rfl (H.onum .zero (by omega) (by omega))) ?_ | refine WL_x (x_load Try.underlying62 rfl rfl (H.onum (.succ .zero) (by omega) (by omega))) ?_ | refine WL_x (x_load Try.underlying62 rfl rfl (H.onum (.succ (.succ .zero)) (by omega) (by omega))) ?_
                refine WL_guard_yes rfl rfl rfl ?_
                refine WL_x (x_binop rfl rfl (r_eql _ _ _ _)) ?_
                refine WL_guard_yes rfl rfl rfl ?_
                refine WL_x (x_pick (v := .bool _) rfl rfl) ?_
                refine WL_x (x_pick (v := .bool _) rfl rfl) ?_
                refine WL_x (x_assign (v := .bool _) rfl) ?_
                refine WL_nil ?_
                refine thenE_normal ?_
                refine WC_ret ?_
                refine ends1 (v := .bool _) Try.results40 rfl ?_
                refine ⟨congrArg (fun b => Ending.returned (Value.bool b)) ?_, H.fr⟩
                unfold rightB
                first
                  | rw [if_pos h17]
                  | (rw [if_neg h17, hud]
                     clear hu hud hop H hlen hcells hplayers op0 op1 a0 a1 b0 b1 c0 c1 n0 n1 m0 m1
                     dsimp only at *
                     first | rw [if_neg hk6] | rw [if_pos h62]
                     simp [*])
            · refine WL_guard_no rfl rfl rfl ?_
              refine WL_guard_no rfl rfl rfl ?_
              refine WL_guard_no rfl rfl rfl ?_
              refine WL_guard_u rfl rfl rfl ?_
              refine WL_guard_u rfl rfl rfl ?_
              refine WL_guard_u rfl rfl rfl ?_
              refine WL_guard_no rfl rfl rfl ?_
              refine WL_x (x_pick (v := .bool _) rfl rfl) ?_
              refine WL_x (x_assign (v := .bool _) rfl) ?_
              refine WL_nil ?_
              refine thenE_normal ?_
              refine WC_ret ?_
              refine ends1 (v := .bool _) Try.results40 rfl ?_
              refine ⟨congrArg (fun b => Ending.returned (Value.bool b)) ?_, H.fr⟩
              unfold rightB
              first
                | rw [if_pos h17]
                | (rw [if_neg h17, hud]
                   clear hu hud hop H hlen hcells hplayers op0 op1 a0 a1 b0 b1 c0 c1 n0 n1 m0 m1
                   dsimp only at *
                   first | rw [if_neg hk6] | rw [if_pos h62]
                   simp [*])
          · refine WL_guard_no rfl rfl rfl ?_
            refine WL_guard_no rfl rfl rfl ?_
            refine WL_guard_no rfl rfl rfl ?_
            refine WL_guard_no rfl rfl rfl ?_
            refine WL_guard_no rfl rfl rfl ?_
            refine WL_x (x_pick (v := .bool _) rfl rfl) ?_
            refine WL_x (x_move (v := .bool _) rfl) ?_
            refine WL_guard_no rfl rfl rfl ?_
            refine WL_guard_no rfl rfl rfl ?_
            refine WL_guard_no rfl rfl rfl ?_
            refine WL_guard_u rfl rfl rfl ?_
            refine WL_guard_u rfl rfl rfl ?_
            refine WL_guard_u rfl rfl rfl ?_
            refine WL_guard_no rfl rfl rfl ?_
            refine WL_x (x_pick (v := .bool _) rfl rfl) ?_
            refine WL_x (x_assign (v := .bool _) rfl) ?_
            refine WL_nil ?_
            refine thenE_normal ?_
            refine WC_ret ?_
            refine ends1 (v := .bool _) Try.results40 rfl ?_
            refine ⟨congrArg (fun b => Ending.returned (Value.bool b)) ?_, H.fr⟩
            unfold rightB
            first
              | rw [if_pos h17]
              | (rw [if_neg h17, hud]
                 clear hu hud hop H hlen hcells hplayers op0 op1 a0 a1 b0 b1 c0 c1 n0 n1 m0 m1
                 dsimp only at *
                 first | rw [if_neg hk6] | rw [if_pos h62]
                 simp [*])
        · refine WL_guard_no rfl rfl rfl ?_
          refine WL_guard_no rfl rfl rfl ?_
          refine WL_guard_no rfl rfl rfl ?_
          refine WL_guard_no rfl rfl rfl ?_
          refine WL_guard_no rfl rfl rfl ?_
          refine WL_x (x_pick (v := .bool _) rfl rfl) ?_
          refine WL_x (x_move (v := .bool _) rfl) ?_
          refine WL_guard_no rfl rfl rfl ?_
          refine WL_guard_no rfl rfl rfl ?_
          refine WL_guard_no rfl rfl rfl ?_
          refine WL_guard_no rfl rfl rfl ?_
          refine WL_guard_no rfl rfl rfl ?_
          refine WL_x (x_pick (v := .bool _) rfl rfl) ?_
          refine WL_x (x_move (v := .bool _) rfl) ?_
          refine WL_guard_no rfl rfl rfl ?_
          refine WL_guard_no rfl rfl rfl ?_
          refine WL_guard_no rfl rfl rfl ?_
          refine WL_guard_u rfl rfl rfl ?_
          refine WL_guard_u rfl rfl rfl ?_
          refine WL_guard_u rfl rfl rfl ?_
          refine WL_guard_no rfl rfl rfl ?_
          refine WL_x (x_pick (v := .bool _) rfl rfl) ?_
          refine WL_x (x_assign (v := .bool _) rfl) ?_
          refine WL_nil ?_
          refine thenE_normal ?_
          refine WC_ret ?_
          refine ends1 (v := .bool _) Try.results40 rfl ?_
          refine ⟨congrArg (fun b => Ending.returned (Value.bool b)) ?_, H.fr⟩
          unfold rightB
          first
            | rw [if_pos h17]
            | (rw [if_neg h17, hud]
               clear hu hud hop H hlen hcells hplayers op0 op1 a0 a1 b0 b1 c0 c1 n0 n1 m0 m1
               dsimp only at *
               first | rw [if_neg hk6] | rw [if_pos h62]
               simp [*])
      · refine WL_guard_no rfl rfl rfl ?_
        refine WL_guard_no rfl rfl rfl ?_
        refine WL_guard_no rfl rfl rfl ?_
        refine WL_guard_no rfl rfl rfl ?_
        refine WL_guard_no rfl rfl rfl ?_
        refine WL_x (x_pick (v := .bool _) rfl rfl) ?_
        refine WL_x (x_move (v := .bool _) rfl) ?_
        refine WL_guard_no rfl rfl rfl ?_
        refine WL_guard_no rfl rfl rfl ?_
        refine WL_guard_no rfl rfl rfl ?_
        refine WL_guard_no rfl rfl rfl ?_
        refine WL_guard_no rfl rfl rfl ?_
        refine WL_x (x_pick (v := .bool _) rfl rfl) ?_
        refine WL_x (x_move (v := .bool _) rfl) ?_
        refine WL_guard_no rfl rfl rfl ?_
        refine WL_guard_no rfl rfl rfl ?_
        refine WL_guard_no rfl rfl rfl ?_
        refine WL_guard_no rfl rfl rfl ?_
        refine WL_guard_no rfl rfl rfl ?_
        refine WL_x (x_pick (v := .bool _) rfl rfl) ?_
        refine WL_x (x_move (v := .bool _) rfl) ?_
        refine WL_guard_no rfl rfl rfl ?_
        refine WL_guard_no rfl rfl rfl ?_
        refine WL_guard_no rfl rfl rfl ?_
        refine WL_guard_u rfl rfl rfl ?_
        refine WL_guard_u rfl rfl rfl ?_
        refine WL_guard_u rfl rfl rfl ?_
        refine WL_guard_no rfl rfl rfl ?_
        refine WL_x (x_pick (v := .bool _) rfl rfl) ?_
        refine WL_x (x_assign (v := .bool _) rfl) ?_
        refine WL_nil ?_
        refine thenE_normal ?_
        refine WC_ret ?_
        refine ends1 (v := .bool _) Try.results40 rfl ?_
        refine ⟨congrArg (fun b => Ending.returned (Value.bool b)) ?_, H.fr⟩
        unfold rightB
        first
          | rw [if_pos h17]
          | (rw [if_neg h17, hud]
             clear hu hud hop H hlen hcells hplayers op0 op1 a0 a1 b0 b1 c0 c1 n0 n1 m0 m1
             dsimp only at *
             first | rw [if_neg hk6] | rw [if_pos h62]
             simp [*])

theorem check_ok (W : World) (l : List Cd) (A : Option Addr) (cap : Nat) (cells players : Int) (hx : Cells W A (encs Cd.enc l)) (hl : l.length ≤ maxLen) (hc : ∀ c, c ∈ l → c.ok) (hcells : 0 ≤ cells ∧ cells ≤ 9223372036854775807) (hplayers : -9223372036854775808 ≤ players ∧ players ≤ 9223372036854775807) :
    Calls Try.prog 33 #[.slice A l.length cap, .int .i64 cells, .int .i64 players] W fun e w' => ∃ i : Int, e = .returned (.tuple #[.int .i64 i, .bool (checkB l cells players)]) ∧ Fr [] W w' := by
  unfold maxLen at hl
  have H : St W [] [] [Go.HW.cells A (encs Cd.enc l)] W := St.start [] (by simp; exact cells_ok hx)
  refine calls_enter (N := 32) Try.func33 rfl Try.ntmps33 rfl ?_
  refine WC_seq ?_
  refine WC_region ?_
  refine WL_x (x_assign (v := (.int .i64 0)) rfl) ?_
  refine WL_x (x_assign (v := (.bool false)) rfl) ?_
  refine WL_nil ?_
  refine thenE_normal ?_
  refine WC_seq ?_
  refine WC_seq ?_
  refine WC_region ?_
  refine WL_x (x_move (v := .slice _ _ _) rfl) ?_
  refine WL_x (x_len Try.underlying24 rfl) ?_
  refine WL_x (x_binop rfl rfl (r_gtr _ _ _ _)) ?_
  refine WL_nil ?_
  refine thenE_normal ?_
  refine WC_ifd rfl (fun h13 => ?_) (fun h13 => ?_)
  · refine WC_seq ?_
    refine WC_region ?_
    refine WL_x (x_assign (v := (.int .i64 96)) rfl) ?_
    refine WL_x (x_assign (v := (.bool false)) rfl) ?_
    refine WL_nil ?_
    refine thenE_normal ?_
    refine WC_ret ?_
    refine thenE_ret ?_
    refine ends2 (v1 := .int .i64 _) (v2 := .bool _) Try.results33 rfl rfl ?_
    first
      | exact ⟨_, by rw [checkB, decide_eq_true hl96, hall2]; rfl, H.fr⟩
      | exact ⟨_, by rw [checkB, hno, Bool.and_false], H.fr⟩
      | exact ⟨_, by rw [checkB, decide_eq_false (by omega), Bool.false_and], H.fr⟩
  · have hl96 : l.length ≤ 96 := by omega
    refine WC_skip ?_
    refine thenE_normal ?_
    refine WC_seq ?_
    refine WC_region ?_
    refine WL_call (vs := []) Try.func39 rfl rfl rfl (uses_ok _) ?_
    rintro _ w ⟨rfl, hf⟩
    refine ⟨_, rfl, ?_⟩
    replace H := H.quiet hf
    refine WL_alloc (l := (encs Use.enc usesZero)) (by kernel_rfl) H ?_
    clear H; intro b8 w H
    first | refine WL_storeA rfl rfl (by kernel_rfl) (by kernel_rfl) H .zero (Nat.le_of_ble_eq_true (by kernel_rfl)) (splice_all _ _ (by kernel_rfl)) ?_ | refine WL_storeA rfl rfl (by kernel_rfl) (by kernel_rfl) H (.succ .zero) (Nat.le_of_ble_eq_true (by kernel_rfl)) (splice_all _ _ (by kernel_rfl)) ?_ | refine WL_storeA rfl rfl (by kernel_rfl) (by kernel_rfl) H (.succ (.succ .zero)) (Nat.le_of_ble_eq_true (by kernel_rfl)) (splice_all _ _ (by kernel_rfl)) ?_ | refine WL_storeA rfl rfl (by kernel_rfl) (by kernel_rfl) H (.succ (.succ (.succ .zero))) (Nat.le_of_ble_eq_true (by kernel_rfl)) (splice_all _ _ (by kernel_rfl)) ?_ | refine WL_storeA rfl rfl (by kernel_rfl) (by kernel_rfl) H (.succ (.succ (.succ (.succ .zero)))) (Nat.le_of_ble_eq_true (by kernel_rfl)) (splice_all _ _ (by kernel_rfl)) ?_
    clear H; intro w H
    refine WL_nil ?_
    refine thenE_normal ?_
    refine WC_seq ?_
    refine WC_seq ?_
    refine WC_region ?_
    refine WL_x (x_move (v := .slice _ _ _) rfl) ?_
    refine WL_x (x_len Try.underlying24 rfl) ?_
    refine WL_x (x_move (v := (.int .i64 0)) rfl) ?_
    refine WL_nil ?_
    refine thenE_normal ?_
    refine WC_block ?_
    refine WC_while (fun (k : Nat) f w' => k ≤ l.length ∧ (l.take k).all (fun c => rightB c l.length cells players) = true ∧ f 17 = .int .i64 k ∧ f 16 = .int .i64 l.length ∧ f 15 = .slice A l.length cap ∧ f 0 = .slice A l.length cap ∧ f 1 = .int .i64 cells ∧ f 2 = .int .i64 players ∧ f 8 = .pointer (some ⟨b8, 0, none⟩) ∧ St W [] [blk b8 (encs Use.enc usesTab) 98] [Go.HW.cells A (encs Cd.enc l)] w') (fun k => l.length - k) (s0 := 0) ?_ ?_
    · exact ⟨Nat.zero_le _, by simp, rfl, rfl, rfl, rfl, rfl, rfl, rfl, H⟩
    · clear H
      rintro k f w ⟨hk, hall, h17, h16, h15, h0, h1, h2, h8, H⟩
      rw [← upd_self h17, ← upd_self h16, ← upd_self h15, ← upd_self h0, ← upd_self h1, ← upd_self h2, ← upd_self h8]
      refine WC_seq ?_
      refine WC_region ?_
      refine WL_x (x_binop rfl rfl (r_lss _ _ _ _)) ?_
      refine WL_nil ?_
      refine thenE_normal ?_
      refine WC_seq ?_
      refine WC_ifd rfl (fun h18 => ?_) (fun h18 => ?_)
      · have hk18 : k < l.length := by omega
        refine WC_skip ?_
        refine thenE_normal ?_
        refine WC_seq ?_
        refine WC_block ?_
        refine WC_seq ?_
        refine WC_region ?_
        refine WL_x (x_move (v := .int .i64 _) rfl) ?_
        refine WL_x (x_indexAddr (s := 6) Try.underlying24 (by kernel_rfl) rfl rfl (by omega) (by omega) (H.rsome (l := encs Cd.enc l) .zero (by rw [encs_length Cd.enc Cd.len]; omega)) rfl) ?_
        refine WL_x (x_loadA (n := 6) (vs := (l[k]).enc) Try.underlying79 rfl (by kernel_rfl) rfl rfl (H.rrange (k := 6) .zero (by rw [Int.toNat_natCast]; exact encs_get Cd.enc Cd.len l k hk18))) ?_
        refine WL_alloc (l := [(.int .u8 0), (.int .u8 0), (.int .u8 0), (.int .u8 0), (.int .i32 0), (.int .u32 0)]) (by kernel_rfl) H ?_
        clear H; intro b10 w H
        refine WL_x (x_assign (v := .int .i64 _) rfl) ?_
        first | refine WL_storeA rfl rfl rfl (by kernel_rfl) H .zero (Nat.le_of_ble_eq_true rfl) (splice_all _ _ rfl) ?_ | refine WL_storeA rfl rfl rfl (by kernel_rfl) H (.succ .zero) (Nat.le_of_ble_eq_true rfl) (splice_all _ _ rfl) ?_ | refine WL_storeA rfl rfl rfl (by kernel_rfl) H (.succ (.succ .zero)) (Nat.le_of_ble_eq_true rfl) (splice_all _ _ rfl) ?_ | refine WL_storeA rfl rfl rfl (by kernel_rfl) H (.succ (.succ (.succ .zero))) (Nat.le_of_ble_eq_true rfl) (splice_all _ _ rfl) ?_ | refine WL_storeA rfl rfl rfl (by kernel_rfl) H (.succ (.succ (.succ (.succ .zero)))) (Nat.le_of_ble_eq_true rfl) (splice_all _ _ rfl) ?_
        clear H; intro w H
        refine WL_nil ?_
        refine thenE_normal ?_
        refine WC_seq ?_
        refine WC_region ?_
        first | refine WL_x (x_loadA (n := 6) Try.underlying79 rfl (by kernel_rfl) rfl rfl (H.rangeAll .zero rfl rfl)) ?_ | refine WL_x (x_loadA (n := 6) Try.underlying79 rfl (by kernel_rfl) rfl rfl (H.rangeAll (.succ .zero) rfl rfl)) ?_ | refine WL_x (x_loadA (n := 6) Try.underlying79 rfl (by kernel_rfl) rfl rfl (H.rangeAll (.succ (.succ .zero)) rfl rfl)) ?_ | refine WL_x (x_loadA (n := 6) Try.underlying79 rfl (by kernel_rfl) rfl rfl (H.rangeAll (.succ (.succ (.succ .zero))) rfl rfl)) ?_ | refine WL_x (x_loadA (n := 6) Try.underlying79 rfl (by kernel_rfl) rfl rfl (H.rangeAll (.succ (.succ (.succ (.succ .zero)))) rfl rfl)) ?_
        refine WL_x (x_loadA (n := 130) (vs := encs Use.enc usesTab) Try.underlying98 rfl (by kernel_rfl) (by kernel_rfl) rfl (H.rangeAll (.succ .zero) rfl rfl)) ?_
        refine WL_x (x_move (v := .slice _ _ _) rfl) ?_
        refine WL_x (x_len Try.underlying24 rfl) ?_
        refine WL_x (x_move (v := .int .i64 _) rfl) ?_
        refine WL_x (x_move (v := .int .i64 _) rfl) ?_
        refine WL_call (vs := [.agg (List.toArray _), .agg (List.toArray _), .int .i64 _, .int .i64 _, .int .i64 _]) Try.func40 rfl rfl rfl (right_ok _ (l[k]) _ _ _ (hc _ (List.getElem_mem _)) (by omega) hcells hplayers) ?_
        rintro _ w ⟨rfl, hf⟩
        refine ⟨_, rfl, ?_⟩
        replace H := H.quiet hf
        refine WL_x (x_not rfl) ?_
        refine WL_nil ?_
        refine thenE_normal ?_
        refine WC_if rfl (fun h29 => ?_) (fun h29 => ?_)
        · have hno : l.all (fun c => rightB c l.length cells players) = false := List.all_eq_false.2 ⟨l[k], List.getElem_mem _, by simpa using h29⟩
          refine WC_seq ?_
          refine WC_region ?_
          refine WL_x (x_move (v := .int .i64 _) rfl) ?_
          refine WL_x (x_assign (v := .int .i64 _) rfl) ?_
          refine WL_x (x_assign (v := (.bool false)) rfl) ?_
          refine WL_nil ?_
          refine thenE_normal ?_
          refine WC_ret ?_
          refine inBlockE_ret ?_
          refine thenE_ret ?_
          refine thenE_ret ?_
          refine inBlockE_ret ?_
          refine thenE_ret ?_
          refine ends2 (v1 := .int .i64 _) (v2 := .bool _) Try.results33 rfl rfl ?_
          first
            | exact ⟨_, by rw [checkB, decide_eq_true hl96, hall2]; rfl, H.fr⟩
            | exact ⟨_, by rw [checkB, hno, Bool.and_false], H.fr⟩
            | exact ⟨_, by rw [checkB, decide_eq_false (by omega), Bool.false_and], H.fr⟩
        · refine WC_skip ?_
          refine inBlockE_normal ?_
          refine thenE_normal ?_
          refine WC_region ?_
          refine WL_x (x_binop rfl rfl (r_add_in (i64_in (by omega) (by omega)))) ?_
          refine WL_x (x_move (v := .int .i64 _) rfl) ?_
          refine WL_nil ?_
          refine thenE_normal ?_
          refine ⟨k + 1, ⟨by omega, ?_, by simp [upd], rfl, rfl, rfl, rfl, rfl, rfl, H.drop (by simp) (by simp)⟩, by omega⟩
          rw [List.take_succ_eq_append_getElem hk18, List.all_append, hall]
          simpa using h29
      · have hall2 : l.all (fun c => rightB c l.length cells players) = true := by rw [← hall, List.take_of_length_le (by omega)]
        refine WC_exit ?_
        refine thenE_exit ?_
        refine thenE_exit ?_
        refine inBlockE_exit ?_
        refine thenE_normal ?_
        refine WC_seq ?_
        refine WC_region ?_
        refine WL_x (x_assign (v := (.int .i64 0)) rfl) ?_
        refine WL_x (x_assign (v := (.bool true)) rfl) ?_
        refine WL_nil ?_
        refine thenE_normal ?_
        refine WC_ret ?_
        refine ends2 (v1 := .int .i64 _) (v2 := .bool _) Try.results33 rfl rfl ?_
        first
          | exact ⟨_, by rw [checkB, decide_eq_true hl96, hall2]; rfl, H.fr⟩
          | exact ⟨_, by rw [checkB, hno, Bool.and_false], H.fr⟩
          | exact ⟨_, by rw [checkB, decide_eq_false (by omega), Bool.false_and], H.fr⟩

theorem codeRight_ok (W : World) (l : List Cd) (A : Option Addr) (cap : Nat) (cells players : Int) (hx : Cells W A (encs Cd.enc l)) (hl : l.length ≤ maxLen) (hc : ∀ c, c ∈ l → c.ok) (hcells : 0 ≤ cells ∧ cells ≤ 9223372036854775807) (hplayers : -9223372036854775808 ≤ players ∧ players ≤ 9223372036854775807) :
    Calls Try.prog 27 #[.slice A l.length cap, .int .i64 cells, .int .i64 players] W fun e w' => e = .returned (.bool (checkB l cells players)) ∧ Fr [] W w' := by
  have H : St W [] [] [] W := St.start [] (by simp)
  refine calls_enter (N := 17) Try.func27 rfl Try.ntmps27 rfl ?_
  refine WC_seq ?_
  refine WC_region ?_
  refine WL_x (x_assign (v := (.bool false)) rfl) ?_
  refine WL_nil ?_
  refine thenE_normal ?_
  refine WC_seq ?_
  refine WC_region ?_
  refine WL_x (x_move (v := .slice _ _ _) rfl) ?_
  refine WL_x (x_move (v := .int .i64 _) rfl) ?_
  refine WL_x (x_move (v := .int .i64 _) rfl) ?_
  refine WL_call (vs := [.slice _ _ _, .int .i64 _, .int .i64 _]) Try.func33 rfl rfl rfl (check_ok _ l A _ _ _ hx hl hc hcells hplayers) ?_
  rintro _ w ⟨i, rfl, hf⟩
  refine ⟨_, rfl, ?_⟩
  replace H := H.quiet hf
  refine WL_x (x_move (v := .tuple _) rfl) ?_
  refine WL_x (x_extract (v := .int .i64 _) rfl rfl) ?_
  refine WL_x (x_extract (v := .bool _) rfl rfl) ?_
  refine WL_x (x_assign (v := .int .i64 _) rfl) ?_
  refine WL_x (x_assign (v := .bool _) rfl) ?_
  refine WL_nil ?_
  refine thenE_normal ?_
  refine WC_seq ?_
  refine WC_region ?_
  refine WL_x (x_move (v := .bool _) rfl) ?_
  refine WL_x (x_assign (v := .bool _) rfl) ?_
  refine WL_nil ?_
  refine thenE_normal ?_
  refine WC_ret ?_
  refine ends1 (v := .bool _) Try.results27 rfl ?_
  exact ⟨rfl, H.fr⟩

theorem within_ok (W : World) (a b : Int) :
    Calls Try.prog 25 #[.int .u32 a, .int .u32 b] W fun e w' => e = .returned (.bool (decide (bits .andNot .u32 a b = 0))) ∧ Fr [] W w' := by
  have H : St W [] [] [] W := St.start [] (by simp)
  refine calls_enter (N := 9) Try.func25 rfl Try.ntmps25 rfl ?_
  refine WC_seq ?_
  refine WC_region ?_
  refine WL_x (x_assign (v := (.bool false)) rfl) ?_
  refine WL_nil ?_
  refine thenE_normal ?_
  refine WC_seq ?_
  refine WC_region ?_
  refine WL_x (x_move (v := .int .u32 _) rfl) ?_
  refine WL_x (x_move (v := .int .u32 _) rfl) ?_
  refine WL_x (x_binop rfl rfl (r_andNot _ _ _ _)) ?_
  refine WL_x (x_binop rfl rfl (r_eql _ _ _ _)) ?_
  refine WL_x (x_assign (v := .bool _) rfl) ?_
  refine WL_nil ?_
  refine thenE_normal ?_
  refine WC_ret ?_
  refine ends1 (v := .bool _) Try.results25 rfl ?_
  exact ⟨rfl, H.fr⟩

def allM (o : Int) : Int := 2 ^ (min (max o 0) 32).toNat - 1

theorem all_ok (W : World) (o : Int) :
    Calls Try.prog 32 #[.int .i64 o] W fun e w' => e = .returned (.int .u32 (allM o)) ∧ Fr [] W w' := by
  have H : St W [] [] [] W := St.start [] (by simp)
  refine calls_enter (N := 9) Try.func32 rfl Try.ntmps32 rfl ?_
  refine WC_seq ?_
  refine WC_region ?_
  refine WL_x (x_assign (v := (.int .u32 0)) rfl) ?_
  refine WL_nil ?_
  refine thenE_normal ?_
  refine WC_seq ?_
  refine WC_region ?_
  refine WL_x (x_move (v := .int .i64 _) rfl) ?_
  refine WL_x (x_max rfl rfl) ?_
  refine WL_x (x_min rfl rfl) ?_
  refine WL_x (x_binop rfl rfl (r_shl (by omega))) ?_
  refine WL_x (x_binop rfl rfl (r_sub _ _ _ _)) ?_
  refine WL_x (x_convert Try.underlying86 Try.underlying62 rfl rfl) ?_
  refine WL_x (x_assign (v := .int .u32 _) rfl) ?_
  refine WL_nil ?_
  refine thenE_normal ?_
  refine WC_ret ?_
  refine ends1 (v := .int .u32 _) Try.results32 rfl ?_
  refine ⟨congrArg (fun z => Ending.returned (Value.int .u32 z)) ?_, H.fr⟩
  unfold allM
  have h : (min (max o 0) 32).toNat ≤ 32 := by omega
  generalize (min (max o 0) 32).toNat = k at h ⊢
  have : k = 0 ∨ k = 1 ∨ k = 2 ∨ k = 3 ∨ k = 4 ∨ k = 5 ∨ k = 6 ∨ k = 7 ∨ k = 8 ∨ k = 9 ∨ k = 10 ∨ k = 11 ∨ k = 12 ∨ k = 13 ∨ k = 14 ∨ k = 15 ∨ k = 16 ∨ k = 17 ∨ k = 18 ∨ k = 19 ∨ k = 20 ∨ k = 21 ∨ k = 22 ∨ k = 23 ∨ k = 24 ∨ k = 25 ∨ k = 26 ∨ k = 27 ∨ k = 28 ∨ k = 29 ∨ k = 30 ∨ k = 31 ∨ k = 32 := by omega
  rcases this with rfl | rfl | rfl | rfl | rfl | rfl | rfl | rfl | rfl | rfl | rfl | rfl | rfl | rfl | rfl | rfl | rfl | rfl | rfl | rfl | rfl | rfl | rfl | rfl | rfl | rfl | rfl | rfl | rfl | rfl | rfl | rfl | rfl <;> rfl


/-! ### a game -/
structure Cel where
  v : Int
  s : Int
instance : Inhabited Cel := ⟨⟨0, 0⟩⟩
def Cel.enc (c : Cel) : List Value := [.int .i32 c.v, .int .u32 c.s]
theorem Cel.len (c : Cel) : c.enc.length = 2 := rfl
structure Gm where
  obs : Int
  pl : Int
  moves : Int
  dflt : Int
  cells : List Cel
  code : List Cd
def Gm.val (g : Gm) (A : Option Addr) (ca : Nat) (B : Option Addr) (cb : Nat) : List Value := [.int .i64 g.obs, .int .i64 g.pl, .int .u32 g.moves, .int .u32 g.dflt, .slice A g.cells.length ca, .slice B g.code.length cb]
structure Gm.ok (g : Gm) : Prop where
  obs0 : -9223372036854775808 ≤ g.obs
  obs1 : g.obs ≤ 9223372036854775807
  pl0 : -9223372036854775808 ≤ g.pl
  pl1 : g.pl ≤ 9223372036854775807
  moves0 : 0 ≤ g.moves
  moves1 : g.moves ≤ 4294967295
  dflt0 : 0 ≤ g.dflt
  dflt1 : g.dflt ≤ 4294967295
  code : ∀ c, c ∈ g.code → c.ok
  nc : g.cells.length ≤ maxLen
  nd : g.code.length ≤ maxLen
def gameRight (g : Gm) : Bool :=
  (decide (1 ≤ g.obs) && decide (g.obs ≤ 32)) && ((decide (1 ≤ g.pl) && decide (g.pl ≤ min 6 g.obs)) && ((decide (g.dflt < g.moves) && decide (g.cells.length ≤ 48)) &&
    (g.cells.all (fun c => decide (bits .andNot .u32 c.s (allM g.obs) = 0)) && checkB g.code g.cells.length g.pl)))

theorem gall_ok (W : World) (g : Gm) (A B : Option Addr) (ca cb : Nat) :
    Calls Try.prog 26 #[.agg (g.val A ca B cb).toArray] W fun e w' => e = .returned (.int .u32 (allM g.obs)) ∧ Fr [] W w' := by
  have H : St W [] [] [] W := St.start [] (by simp)
  refine calls_enter (N := 6) Try.func26 rfl Try.ntmps26 rfl ?_
  refine WC_seq ?_
  refine WC_region ?_
  refine WL_box (v := .agg (List.toArray _)) rfl rfl H ?_
  clear H; intro b1 w H
  refine WL_x (x_assign (v := (.int .u32 0)) rfl) ?_
  refine WL_nil ?_
  refine thenE_normal ?_
  refine WC_seq ?_
  refine WC_region ?_
  refine WL_x (x_fieldAddr (n := 0) (o' := 0) Try.underlying26 rfl (by kernel_rfl) rfl rfl) ?_
  first | refine WL_x (x_load (v := .int .i64 _) Try.underlying3 rfl rfl (H.cellAt .zero rfl)) ?_ | refine WL_x (x_load (v := .int .i64 _) Try.underlying3 rfl rfl (H.cellAt (.succ .zero) rfl)) ?_ | refine WL_x (x_load (v := .int .i64 _) Try.underlying3 rfl rfl (H.cellAt (.succ (.succ .zero)) rfl)) ?_ | refine WL_x (x_load (v := .int .i64 _) Try.underlying3 rfl rfl (H.cellAt (.succ (.succ (.succ .zero))) rfl)) ?_ | refine WL_x (x_load (v := .int .i64 _) Try.underlying3 rfl rfl (H.cellAt (.succ (.succ (.succ (.succ .zero)))) rfl)) ?_ | refine WL_x (x_load Try.underlying3 rfl rfl (H.rnum .zero (by omega) (by omega))) ?_ | refine WL_x (x_load Try.underlying3 rfl rfl (H.rnum (.succ .zero) (by omega) (by omega))) ?_ | refine WL_x (x_load Try.underlying3 rfl rfl (H.rnum (.succ (.succ .zero)) (by omega) (by omega))) ?_ | refine WL_x (x_load Try.underlying3 rfl rfl (H.onum .zero (by omega) (by omega))) ?_ | refine WL_x (x_load Try.underlying3 rfl rfl (H.onum (.succ .zero) (by omega) (by omega))) ?_ | refine WL_x (x_load Try.underlying3 rfl rfl (H.onum (.succ (.succ .zero)) (by omega) (by omega))) ?_
  refine WL_call (vs := [.int .i64 _]) Try.func32 rfl rfl rfl (all_ok _ _) ?_
  rintro _ w ⟨rfl, hf⟩
  refine ⟨_, rfl, ?_⟩
  replace H := H.quiet hf
  refine WL_x (x_assign (v := .int .u32 _) rfl) ?_
  refine WL_nil ?_
  refine thenE_normal ?_
  refine WC_ret ?_
  refine ends1 (v := .int .u32 _) Try.results26 rfl ?_
  exact ⟨rfl, H.fr⟩

set_option maxHeartbeats 1000000 in
theorem gright_ok (W : World) (g : Gm) (A B : Option Addr) (ca cb : Nat) (hg : g.ok) (hx : Cells W A (encs Cel.enc g.cells)) (hy : Cells W B (encs Cd.enc g.code)) :
    Calls Try.prog 11 #[.agg (g.val A ca B cb).toArray] W fun e w' => e = .returned (.bool (gameRight g)) ∧ Fr [] W w' := by
  have hnc := hg.nc
  unfold maxLen at hnc
  have H : St W [] [] [Go.HW.cells A (encs Cel.enc g.cells), Go.HW.cells B (encs Cd.enc g.code)] W := St.start [] (by simp; exact ⟨cells_ok hx, cells_ok hy⟩)
  refine calls_enter (N := 60) Try.func11 rfl Try.ntmps11 rfl ?_
  refine WC_seq ?_
  refine WC_region ?_
  refine WL_box (v := .agg (List.toArray _)) rfl rfl H ?_
  clear H; intro b1 w H
  refine WL_x (x_assign (v := (.bool false)) rfl) ?_
  refine WL_nil ?_
  refine thenE_normal ?_
  refine WC_seq ?_
  refine WC_block ?_
  refine WC_seq ?_
  refine WC_region ?_
  refine WL_x (x_fieldAddr (n := 0) (o' := 0) Try.underlying26 rfl (by kernel_rfl) rfl rfl) ?_
  first | refine WL_x (x_load (v := .int .i64 _) Try.underlying3 rfl rfl (H.cellAt .zero rfl)) ?_ | refine WL_x (x_load (v := .int .i64 _) Try.underlying3 rfl rfl (H.cellAt (.succ .zero) rfl)) ?_ | refine WL_x (x_load (v := .int .i64 _) Try.underlying3 rfl rfl (H.cellAt (.succ (.succ .zero)) rfl)) ?_ | refine WL_x (x_load (v := .int .i64 _) Try.underlying3 rfl rfl (H.cellAt (.succ (.succ (.succ .zero))) rfl)) ?_ | refine WL_x (x_load (v := .int .i64 _) Try.underlying3 rfl rfl (H.cellAt (.succ (.succ (.succ (.succ .zero)))) rfl)) ?_ | refine WL_x (x_load Try.underlying3 rfl rfl (H.rnum .zero (by omega) (by omega))) ?_ | refine WL_x (x_load Try.underlying3 rfl rfl (H.rnum (.succ .zero) (by omega) (by omega))) ?_ | refine WL_x (x_load Try.underlying3 rfl rfl (H.rnum (.succ (.succ .zero)) (by omega) (by omega))) ?_ | refine WL_x (x_load Try.underlying3 rfl rfl (H.onum .zero (by omega) (by omega))) ?_ | refine WL_x (x_load Try.underlying3 rfl rfl (H.onum (.succ .zero) (by omega) (by omega))) ?_ | refine WL_x (x_load Try.underlying3 rfl rfl (H.onum (.succ (.succ .zero)) (by omega) (by omega))) ?_
  refine WL_x (x_binop rfl rfl (r_lss _ _ _ _)) ?_
  refine WL_x (x_move (v := .bool _) rfl) ?_
  first | refine WL_cased (t := 9) rfl (fun h9 => ?_) (fun h9 => ?_) | refine WL_casen (t := 9) rfl (fun h9 => ?_) (fun h9 => ?_) | refine WL_case (t := 9) rfl (fun h9 => ?_) (fun h9 => ?_)
  · refine WL_guard_no rfl rfl rfl ?_
    refine WL_guard_no rfl rfl rfl ?_
    refine WL_guard_no rfl rfl rfl ?_
    refine WL_x (x_pick (v := .bool _) rfl rfl) ?_
    refine WL_x (x_assign (v := .bool _) rfl) ?_
    refine WL_nil ?_
    refine thenE_normal ?_
    refine WC_yes rfl ?_
    refine WC_seq ?_
    refine WC_region ?_
    refine WL_x (x_assign (v := (.bool false)) rfl) ?_
    refine WL_nil ?_
    refine thenE_normal ?_
    refine WC_ret ?_
    refine inBlockE_ret ?_
    refine thenE_ret ?_
    refine ends1 (v := .bool _) Try.results11 rfl ?_
    refine ⟨congrArg (fun b => Ending.returned (Value.bool b)) ?_, H.fr⟩
    clear H
    unfold gameRight
    first
      | rw [hno, Bool.false_and, Bool.and_false, Bool.and_false, Bool.and_false]
      | rw [hall2, decide_eq_true (by omega), decide_eq_true (by omega), decide_eq_true (by omega), decide_eq_true (by omega), decide_eq_true (by omega), decide_eq_true (by omega)]; rfl
      | rw [decide_eq_false (show ¬ (1 ≤ g.obs) by omega), Bool.false_and, Bool.false_and]
      | rw [decide_eq_false (show ¬ (g.obs ≤ 32) by omega), Bool.and_false, Bool.false_and]
      | rw [decide_eq_false (show ¬ (1 ≤ g.pl) by omega), Bool.false_and, Bool.false_and, Bool.and_false]
      | rw [decide_eq_false (show ¬ (g.pl ≤ min 6 g.obs) by omega), Bool.and_false, Bool.false_and, Bool.and_false]
      | rw [decide_eq_false (show ¬ (g.dflt < g.moves) by omega), Bool.false_and, Bool.false_and, Bool.and_false, Bool.and_false]
      | rw [decide_eq_false (show ¬ (g.cells.length ≤ 48) by omega), Bool.and_false, Bool.false_and, Bool.and_false, Bool.and_false]
  · refine WL_guard_yes rfl rfl rfl ?_
    refine WL_x (x_fieldAddr (n := 0) (o' := 0) Try.underlying26 rfl (by kernel_rfl) rfl rfl) ?_
    refine WL_guard_yes rfl rfl rfl ?_
    first | refine WL_x (x_load (v := .int .i64 _) Try.underlying3 rfl rfl (H.cellAt .zero rfl)) ?_ | refine WL_x (x_load (v := .int .i64 _) Try.underlying3 rfl rfl (H.cellAt (.succ .zero) rfl)) ?_ | refine WL_x (x_load (v := .int .i64 _) Try.underlying3 rfl rfl (H.cellAt (.succ (.succ .zero)) rfl)) ?_ | refine WL_x (x_load (v := .int .i64 _) Try.underlying3 rfl rfl (H.cellAt (.succ (.succ (.succ .zero))) rfl)) ?_ | refine WL_x (x_load (v := .int .i64 _) Try.underlying3 rfl rfl (H.cellAt (.succ (.succ (.succ (.succ .zero)))) rfl)) ?_ | refine WL_x (x_load Try.underlying3 rfl rfl (H.rnum .zero (by omega) (by omega))) ?_ | refine WL_x (x_load Try.underlying3 rfl rfl (H.rnum (.succ .zero) (by omega) (by omega))) ?_ | refine WL_x (x_load Try.underlying3 rfl rfl (H.rnum (.succ (.succ .zero)) (by omega) (by omega))) ?_ | refine WL_x (x_load Try.underlying3 rfl rfl (H.onum .zero (by omega) (by omega))) ?_ | refine WL_x (x_load Try.underlying3 rfl rfl (H.onum (.succ .zero) (by omega) (by omega))) ?_ | refine WL_x (x_load Try.underlying3 rfl rfl (H.onum (.succ (.succ .zero)) (by omega) (by omega))) ?_
    refine WL_guard_yes rfl rfl rfl ?_
    refine WL_x (x_binop rfl rfl (r_gtr _ _ _ _)) ?_
    refine WL_x (x_pick (v := .bool _) rfl rfl) ?_
    refine WL_x (x_assign (v := .bool _) rfl) ?_
    refine WL_nil ?_
    refine thenE_normal ?_
    first | refine WC_ifd rfl (fun h5 => ?_) (fun h5 => ?_) | refine WC_ifn rfl (fun h5 => ?_) (fun h5 => ?_) | refine WC_if rfl (fun h5 => ?_) (fun h5 => ?_)
    · refine WC_seq ?_
      refine WC_region ?_
      refine WL_x (x_assign (v := (.bool false)) rfl) ?_
      refine WL_nil ?_
      refine thenE_normal ?_
      refine WC_ret ?_
      refine inBlockE_ret ?_
      refine thenE_ret ?_
      refine ends1 (v := .bool _) Try.results11 rfl ?_
      refine ⟨congrArg (fun b => Ending.returned (Value.bool b)) ?_, H.fr⟩
      clear H
      unfold gameRight
      first
        | rw [hno, Bool.false_and, Bool.and_false, Bool.and_false, Bool.and_false]
        | rw [hall2, decide_eq_true (by omega), decide_eq_true (by omega), decide_eq_true (by omega), decide_eq_true (by omega), decide_eq_true (by omega), decide_eq_true (by omega)]; rfl
        | rw [decide_eq_false (show ¬ (1 ≤ g.obs) by omega), Bool.false_and, Bool.false_and]
        | rw [decide_eq_false (show ¬ (g.obs ≤ 32) by omega), Bool.and_false, Bool.false_and]
        | rw [decide_eq_false (show ¬ (1 ≤ g.pl) by omega), Bool.false_and, Bool.false_and, Bool.and_false]
        | rw [decide_eq_false (show ¬ (g.pl ≤ min 6 g.obs) by omega), Bool.and_false, Bool.false_and, Bool.and_false]
        | rw [decide_eq_false (show ¬ (g.dflt < g.moves) by omega), Bool.false_and, Bool.false_and, Bool.and_false, Bool.and_false]
        | rw [decide_eq_false (show ¬ (g.cells.length ≤ 48) by omega), Bool.and_false, Bool.false_and, Bool.and_false, Bool.and_false]
    · refine WC_seq ?_
      refine WC_region ?_
      refine WL_x (x_fieldAddr (n := 0) (o' := 1) Try.underlying26 rfl (by kernel_rfl) rfl rfl) ?_
      first | refine WL_x (x_load (v := .int .i64 _) Try.underlying3 rfl rfl (H.cellAt .zero rfl)) ?_ | refine WL_x (x_load (v := .int .i64 _) Try.underlying3 rfl rfl (H.cellAt (.succ .zero) rfl)) ?_ | refine WL_x (x_load (v := .int .i64 _) Try.underlying3 rfl rfl (H.cellAt (.succ (.succ .zero)) rfl)) ?_ | refine WL_x (x_load (v := .int .i64 _) Try.underlying3 rfl rfl (H.cellAt (.succ (.succ (.succ .zero))) rfl)) ?_ | refine WL_x (x_load (v := .int .i64 _) Try.underlying3 rfl rfl (H.cellAt (.succ (.succ (.succ (.succ .zero)))) rfl)) ?_ | refine WL_x (x_load Try.underlying3 rfl rfl (H.rnum .zero (by omega) (by omega))) ?_ | refine WL_x (x_load Try.underlying3 rfl rfl (H.rnum (.succ .zero) (by omega) (by omega))) ?_ | refine WL_x (x_load Try.underlying3 rfl rfl (H.rnum (.succ (.succ .zero)) (by omega) (by omega))) ?_ | refine WL_x (x_load Try.underlying3 rfl rfl (H.onum .zero (by omega) (by omega))) ?_ | refine WL_x (x_load Try.underlying3 rfl rfl (H.onum (.succ .zero) (by omega) (by omega))) ?_ | refine WL_x (x_load Try.underlying3 rfl rfl (H.onum (.succ (.succ .zero)) (by omega) (by omega))) ?_
      refine WL_x (x_binop rfl rfl (r_lss _ _ _ _)) ?_
      refine WL_x (x_move (v := .bool _) rfl) ?_
      first | refine WL_cased (t := 18) rfl (fun h18 => ?_) (fun h18 => ?_) | refine WL_casen (t := 18) rfl (fun h18 => ?_) (fun h18 => ?_) | refine WL_case (t := 18) rfl (fun h18 => ?_) (fun h18 => ?_)
      · refine WL_guard_no rfl rfl rfl ?_
        refine WL_guard_no rfl rfl rfl ?_
        refine WL_guard_no rfl rfl rfl ?_
        refine WL_guard_no rfl rfl rfl ?_
        refine WL_guard_no rfl rfl rfl ?_
        refine WL_guard_no rfl rfl rfl ?_
        refine WL_x (x_pick (v := .bool _) rfl rfl) ?_
        refine WL_x (x_assign (v := .bool _) rfl) ?_
        refine WL_nil ?_
        refine thenE_normal ?_
        refine WC_yes rfl ?_
        refine WC_seq ?_
        refine WC_region ?_
        refine WL_x (x_assign (v := (.bool false)) rfl) ?_
        refine WL_nil ?_
        refine thenE_normal ?_
        refine WC_ret ?_
        refine inBlockE_ret ?_
        refine thenE_ret ?_
        refine ends1 (v := .bool _) Try.results11 rfl ?_
        refine ⟨congrArg (fun b => Ending.returned (Value.bool b)) ?_, H.fr⟩
        clear H
        unfold gameRight
        first
          | rw [hno, Bool.false_and, Bool.and_false, Bool.and_false, Bool.and_false]
          | rw [hall2, decide_eq_true (by omega), decide_eq_true (by omega), decide_eq_true (by omega), decide_eq_true (by omega), decide_eq_true (by omega), decide_eq_true (by omega)]; rfl
          | rw [decide_eq_false (show ¬ (1 ≤ g.obs) by omega), Bool.false_and, Bool.false_and]
          | rw [decide_eq_false (show ¬ (g.obs ≤ 32) by omega), Bool.and_false, Bool.false_and]
          | rw [decide_eq_false (show ¬ (1 ≤ g.pl) by omega), Bool.false_and, Bool.false_and, Bool.and_false]
          | rw [decide_eq_false (show ¬ (g.pl ≤ min 6 g.obs) by omega), Bool.and_false, Bool.false_and, Bool.and_false]
          | rw [decide_eq_false (show ¬ (g.dflt < g.moves) by omega), Bool.false_and, Bool.false_and, Bool.and_false, Bool.and_false]
          | rw [decide_eq_false (show ¬ (g.cells.length ≤ 48) by omega), Bool.and_false, Bool.false_and, Bool.and_false, Bool.and_false]
      · refine WL_guard_yes rfl rfl rfl ?_
        refine WL_x (x_fieldAddr (n := 0) (o' := 1) Try.underlying26 rfl (by kernel_rfl) rfl rfl) ?_
        refine WL_guard_yes rfl rfl rfl ?_
        first | refine WL_x (x_load (v := .int .i64 _) Try.underlying3 rfl rfl (H.cellAt .zero rfl)) ?_ | refine WL_x (x_load (v := .int .i64 _) Try.underlying3 rfl rfl (H.cellAt (.succ .zero) rfl)) ?_ | refine WL_x (x_load (v := .int .i64 _) Try.underlying3 rfl rfl (H.cellAt (.succ (.succ .zero)) rfl)) ?_ | refine WL_x (x_load (v := .int .i64 _) Try.underlying3 rfl rfl (H.cellAt (.succ (.succ (.succ .zero))) rfl)) ?_ | refine WL_x (x_load (v := .int .i64 _) Try.underlying3 rfl rfl (H.cellAt (.succ (.succ (.succ (.succ .zero)))) rfl)) ?_ | refine WL_x (x_load Try.underlying3 rfl rfl (H.rnum .zero (by omega) (by omega))) ?_ | refine WL_x (x_load Try.underlying3 rfl rfl (H.rnum (.succ .zero) (by omega) (by omega))) ?_ | refine WL_x (x_load Try.underlying3 rfl rfl (H.rnum (.succ (.succ .zero)) (by omega) (by omega))) ?_ | refine WL_x (x_load Try.underlying3 rfl rfl (H.onum .zero (by omega) (by omega))) ?_ | refine WL_x (x_load Try.underlying3 rfl rfl (H.onum (.succ .zero) (by omega) (by omega))) ?_ | refine WL_x (x_load Try.underlying3 rfl rfl (H.onum (.succ (.succ .zero)) (by omega) (by omega))) ?_
        refine WL_guard_yes rfl rfl rfl ?_
        refine WL_x (x_fieldAddr (n := 0) (o' := 0) Try.underlying26 rfl (by kernel_rfl) rfl rfl) ?_
        refine WL_guard_yes rfl rfl rfl ?_
        first | refine WL_x (x_load (v := .int .i64 _) Try.underlying3 rfl rfl (H.cellAt .zero rfl)) ?_ | refine WL_x (x_load (v := .int .i64 _) Try.underlying3 rfl rfl (H.cellAt (.succ .zero) rfl)) ?_ | refine WL_x (x_load (v := .int .i64 _) Try.underlying3 rfl rfl (H.cellAt (.succ (.succ .zero)) rfl)) ?_ | refine WL_x (x_load (v := .int .i64 _) Try.underlying3 rfl rfl (H.cellAt (.succ (.succ (.succ .zero))) rfl)) ?_ | refine WL_x (x_load (v := .int .i64 _) Try.underlying3 rfl rfl (H.cellAt (.succ (.succ (.succ (.succ .zero)))) rfl)) ?_ | refine WL_x (x_load Try.underlying3 rfl rfl (H.rnum .zero (by omega) (by omega))) ?_ | refine WL_x (x_load Try.underlying3 rfl rfl (H.rnum (.succ .zero) (by omega) (by omega))) ?_ | refine WL_x (x_load Try.underlying3 rfl rfl (H.rnum (.succ (.succ .zero)) (by omega) (by omega))) ?_ | refine WL_x (x_load Try.underlying3 rfl rfl (H.onum .zero (by omega) (by omega))) ?_ | refine WL_x (x_load Try.underlying3 rfl rfl (H.onum (.succ .zero) (by omega) (by omega))) ?_ | refine WL_x (x_load Try.underlying3 rfl rfl (H.onum (.succ (.succ .zero)) (by omega) (by omega))) ?_
        refine WL_guard_yes rfl rfl rfl ?_
        refine WL_x (x_min rfl rfl) ?_
        refine WL_guard_yes rfl rfl rfl ?_
        refine WL_x (x_binop rfl rfl (r_gtr _ _ _ _)) ?_
        refine WL_x (x_pick (v := .bool _) rfl rfl) ?_
        refine WL_x (x_assign (v := .bool _) rfl) ?_
        refine WL_nil ?_
        refine thenE_normal ?_
        first | refine WC_ifd rfl (fun h14 => ?_) (fun h14 => ?_) | refine WC_ifn rfl (fun h14 => ?_) (fun h14 => ?_) | refine WC_if rfl (fun h14 => ?_) (fun h14 => ?_)
        · refine WC_seq ?_
          refine WC_region ?_
          refine WL_x (x_assign (v := (.bool false)) rfl) ?_
          refine WL_nil ?_
          refine thenE_normal ?_
          refine WC_ret ?_
          refine inBlockE_ret ?_
          refine thenE_ret ?_
          refine ends1 (v := .bool _) Try.results11 rfl ?_
          refine ⟨congrArg (fun b => Ending.returned (Value.bool b)) ?_, H.fr⟩
          clear H
          unfold gameRight
          first
            | rw [hno, Bool.false_and, Bool.and_false, Bool.and_false, Bool.and_false]
            | rw [hall2, decide_eq_true (by omega), decide_eq_true (by omega), decide_eq_true (by omega), decide_eq_true (by omega), decide_eq_true (by omega), decide_eq_true (by omega)]; rfl
            | rw [decide_eq_false (show ¬ (1 ≤ g.obs) by omega), Bool.false_and, Bool.false_and]
            | rw [decide_eq_false (show ¬ (g.obs ≤ 32) by omega), Bool.and_false, Bool.false_and]
            | rw [decide_eq_false (show ¬ (1 ≤ g.pl) by omega), Bool.false_and, Bool.false_and, Bool.and_false]
            | rw [decide_eq_false (show ¬ (g.pl ≤ min 6 g.obs) by omega), Bool.and_false, Bool.false_and, Bool.and_false]
            | rw [decide_eq_false (show ¬ (g.dflt < g.moves) by omega), Bool.false_and, Bool.false_and, Bool.and_false, Bool.and_false]
            | rw [decide_eq_false (show ¬ (g.cells.length ≤ 48) by omega), Bool.and_false, Bool.false_and, Bool.and_false, Bool.and_false]
        · refine WC_seq ?_
          refine WC_region ?_
          refine WL_x (x_fieldAddr (n := 0) (o' := 3) Try.underlying26 rfl (by kernel_rfl) rfl rfl) ?_
          first | refine WL_x (x_load (v := .int .u32 _) Try.underlying22 rfl rfl (H.cellAt .zero rfl)) ?_ | refine WL_x (x_load (v := .int .u32 _) Try.underlying22 rfl rfl (H.cellAt (.succ .zero) rfl)) ?_ | refine WL_x (x_load (v := .int .u32 _) Try.underlying22 rfl rfl (H.cellAt (.succ (.succ .zero)) rfl)) ?_ | refine WL_x (x_load (v := .int .u32 _) Try.underlying22 rfl rfl (H.cellAt (.succ (.succ (.succ .zero))) rfl)) ?_ | refine WL_x (x_load (v := .int .u32 _) Try.underlying22 rfl rfl (H.cellAt (.succ (.succ (.succ (.succ .zero)))) rfl)) ?_ | refine WL_x (x_load Try.underlying22 rfl rfl (H.rnum .zero (by omega) (by omega))) ?_ | refine WL_x (x_load Try.underlying22 rfl rfl (H.rnum (.succ .zero) (by omega) (by omega))) ?_ | refine WL_x (x_load Try.underlying22 rfl rfl (H.rnum (.succ (.succ .zero)) (by omega) (by omega))) ?_ | refine WL_x (x_load Try.underlying22 rfl rfl (H.onum .zero (by omega) (by omega))) ?_ | refine WL_x (x_load Try.underlying22 rfl rfl (H.onum (.succ .zero) (by omega) (by omega))) ?_ | refine WL_x (x_load Try.underlying22 rfl rfl (H.onum (.succ (.succ .zero)) (by omega) (by omega))) ?_
          refine WL_x (x_fieldAddr (n := 0) (o' := 2) Try.underlying26 rfl (by kernel_rfl) rfl rfl) ?_
          first | refine WL_x (x_load (v := .int .u32 _) Try.underlying22 rfl rfl (H.cellAt .zero rfl)) ?_ | refine WL_x (x_load (v := .int .u32 _) Try.underlying22 rfl rfl (H.cellAt (.succ .zero) rfl)) ?_ | refine WL_x (x_load (v := .int .u32 _) Try.underlying22 rfl rfl (H.cellAt (.succ (.succ .zero)) rfl)) ?_ | refine WL_x (x_load (v := .int .u32 _) Try.underlying22 rfl rfl (H.cellAt (.succ (.succ (.succ .zero))) rfl)) ?_ | refine WL_x (x_load (v := .int .u32 _) Try.underlying22 rfl rfl (H.cellAt (.succ (.succ (.succ (.succ .zero)))) rfl)) ?_ | refine WL_x (x_load Try.underlying22 rfl rfl (H.rnum .zero (by omega) (by omega))) ?_ | refine WL_x (x_load Try.underlying22 rfl rfl (H.rnum (.succ .zero) (by omega) (by omega))) ?_ | refine WL_x (x_load Try.underlying22 rfl rfl (H.rnum (.succ (.succ .zero)) (by omega) (by omega))) ?_ | refine WL_x (x_load Try.underlying22 rfl rfl (H.onum .zero (by omega) (by omega))) ?_ | refine WL_x (x_load Try.underlying22 rfl rfl (H.onum (.succ .zero) (by omega) (by omega))) ?_ | refine WL_x (x_load Try.underlying22 rfl rfl (H.onum (.succ (.succ .zero)) (by omega) (by omega))) ?_
          refine WL_x (x_binop rfl rfl (r_geq _ _ _ _)) ?_
          refine WL_x (x_move (v := .bool _) rfl) ?_
          first | refine WL_cased (t := 32) rfl (fun h32 => ?_) (fun h32 => ?_) | refine WL_casen (t := 32) rfl (fun h32 => ?_) (fun h32 => ?_) | refine WL_case (t := 32) rfl (fun h32 => ?_) (fun h32 => ?_)
          · refine WL_guard_no rfl rfl rfl ?_
            refine WL_guard_no rfl rfl rfl ?_
            refine WL_guard_no rfl rfl rfl ?_
            refine WL_guard_no rfl rfl rfl ?_
            refine WL_x (x_pick (v := .bool _) rfl rfl) ?_
            refine WL_x (x_assign (v := .bool _) rfl) ?_
            refine WL_nil ?_
            refine thenE_normal ?_
            refine WC_yes rfl ?_
            refine WC_seq ?_
            refine WC_region ?_
            refine WL_x (x_assign (v := (.bool false)) rfl) ?_
            refine WL_nil ?_
            refine thenE_normal ?_
            refine WC_ret ?_
            refine inBlockE_ret ?_
            refine thenE_ret ?_
            refine ends1 (v := .bool _) Try.results11 rfl ?_
            refine ⟨congrArg (fun b => Ending.returned (Value.bool b)) ?_, H.fr⟩
            clear H
            unfold gameRight
            first
              | rw [hno, Bool.false_and, Bool.and_false, Bool.and_false, Bool.and_false]
              | rw [hall2, decide_eq_true (by omega), decide_eq_true (by omega), decide_eq_true (by omega), decide_eq_true (by omega), decide_eq_true (by omega), decide_eq_true (by omega)]; rfl
              | rw [decide_eq_false (show ¬ (1 ≤ g.obs) by omega), Bool.false_and, Bool.false_and]
              | rw [decide_eq_false (show ¬ (g.obs ≤ 32) by omega), Bool.and_false, Bool.false_and]
              | rw [decide_eq_false (show ¬ (1 ≤ g.pl) by omega), Bool.false_and, Bool.false_and, Bool.and_false]
              | rw [decide_eq_false (show ¬ (g.pl ≤ min 6 g.obs) by omega), Bool.and_false, Bool.false_and, Bool.and_false]
              | rw [decide_eq_false (show ¬ (g.dflt < g.moves) by omega), Bool.false_and, Bool.false_and, Bool.and_false, Bool.and_false]
              | rw [decide_eq_false (show ¬ (g.cells.length ≤ 48) by omega), Bool.and_false, Bool.false_and, Bool.and_false, Bool.and_false]
          · refine WL_guard_yes rfl rfl rfl ?_
            refine WL_x (x_fieldAddr (n := 0) (o' := 4) Try.underlying26 rfl (by kernel_rfl) rfl rfl) ?_
            refine WL_guard_yes rfl rfl rfl ?_
            first | refine WL_x (x_load (v := .slice _ _ _) Try.underlying23 rfl rfl (H.cellAt .zero rfl)) ?_ | refine WL_x (x_load (v := .slice _ _ _) Try.underlying23 rfl rfl (H.cellAt (.succ .zero) rfl)) ?_ | refine WL_x (x_load (v := .slice _ _ _) Try.underlying23 rfl rfl (H.cellAt (.succ (.succ .zero)) rfl)) ?_ | refine WL_x (x_load (v := .slice _ _ _) Try.underlying23 rfl rfl (H.cellAt (.succ (.succ (.succ .zero))) rfl)) ?_ | refine WL_x (x_load (v := .slice _ _ _) Try.underlying23 rfl rfl (H.cellAt (.succ (.succ (.succ (.succ .zero)))) rfl)) ?_
            refine WL_guard_yes rfl rfl rfl ?_
            refine WL_x (x_len Try.underlying23 rfl) ?_
            refine WL_guard_yes rfl rfl rfl ?_
            refine WL_x (x_binop rfl rfl (r_gtr _ _ _ _)) ?_
            refine WL_x (x_pick (v := .bool _) rfl rfl) ?_
            refine WL_x (x_assign (v := .bool _) rfl) ?_
            refine WL_nil ?_
            refine thenE_normal ?_
            first | refine WC_ifd rfl (fun h26 => ?_) (fun h26 => ?_) | refine WC_ifn rfl (fun h26 => ?_) (fun h26 => ?_) | refine WC_if rfl (fun h26 => ?_) (fun h26 => ?_)
            · refine WC_seq ?_
              refine WC_region ?_
              refine WL_x (x_assign (v := (.bool false)) rfl) ?_
              refine WL_nil ?_
              refine thenE_normal ?_
              refine WC_ret ?_
              refine inBlockE_ret ?_
              refine thenE_ret ?_
              refine ends1 (v := .bool _) Try.results11 rfl ?_
              refine ⟨congrArg (fun b => Ending.returned (Value.bool b)) ?_, H.fr⟩
              clear H
              unfold gameRight
              first
                | rw [hno, Bool.false_and, Bool.and_false, Bool.and_false, Bool.and_false]
                | rw [hall2, decide_eq_true (by omega), decide_eq_true (by omega), decide_eq_true (by omega), decide_eq_true (by omega), decide_eq_true (by omega), decide_eq_true (by omega)]; rfl
                | rw [decide_eq_false (show ¬ (1 ≤ g.obs) by omega), Bool.false_and, Bool.false_and]
                | rw [decide_eq_false (show ¬ (g.obs ≤ 32) by omega), Bool.and_false, Bool.false_and]
                | rw [decide_eq_false (show ¬ (1 ≤ g.pl) by omega), Bool.false_and, Bool.false_and, Bool.and_false]
                | rw [decide_eq_false (show ¬ (g.pl ≤ min 6 g.obs) by omega), Bool.and_false, Bool.false_and, Bool.and_false]
                | rw [decide_eq_false (show ¬ (g.dflt < g.moves) by omega), Bool.false_and, Bool.false_and, Bool.and_false, Bool.and_false]
                | rw [decide_eq_false (show ¬ (g.cells.length ≤ 48) by omega), Bool.and_false, Bool.false_and, Bool.and_false, Bool.and_false]
            · refine WC_skip ?_
              refine inBlockE_normal ?_
              refine thenE_normal ?_
              refine WC_seq ?_
              refine WC_seq ?_
              refine WC_region ?_
              refine WL_x (x_fieldAddr (n := 0) (o' := 4) Try.underlying26 rfl (by kernel_rfl) rfl rfl) ?_
              first | refine WL_x (x_load (v := .slice _ _ _) Try.underlying23 rfl rfl (H.cellAt .zero rfl)) ?_ | refine WL_x (x_load (v := .slice _ _ _) Try.underlying23 rfl rfl (H.cellAt (.succ .zero) rfl)) ?_ | refine WL_x (x_load (v := .slice _ _ _) Try.underlying23 rfl rfl (H.cellAt (.succ (.succ .zero)) rfl)) ?_ | refine WL_x (x_load (v := .slice _ _ _) Try.underlying23 rfl rfl (H.cellAt (.succ (.succ (.succ .zero))) rfl)) ?_ | refine WL_x (x_load (v := .slice _ _ _) Try.underlying23 rfl rfl (H.cellAt (.succ (.succ (.succ (.succ .zero)))) rfl)) ?_
              refine WL_x (x_len Try.underlying23 rfl) ?_
              refine WL_x (x_move (v := (.int .i64 0)) rfl) ?_
              refine WL_nil ?_
              refine thenE_normal ?_
              refine WC_block ?_
              refine WC_while (fun (k : Nat) f w' => k ≤ g.cells.length ∧ (g.cells.take k).all (fun c => decide (bits .andNot .u32 c.s (allM g.obs) = 0)) = true ∧ f 41 = .int .i64 k ∧ f 40 = .int .i64 g.cells.length ∧ f 39 = .slice A g.cells.length ca ∧ f 1 = .pointer (some ⟨b1, 0, none⟩) ∧ St W [] [blk b1 (g.val A ca B cb) 26] [Go.HW.cells A (encs Cel.enc g.cells), Go.HW.cells B (encs Cd.enc g.code)] w') (fun k => g.cells.length - k) (s0 := 0) ?_ ?_
              · exact ⟨Nat.zero_le _, by simp, rfl, rfl, rfl, rfl, H⟩
              · clear H
                rintro k f w ⟨hk, hall, h41, h40, h39, h1, H⟩
                rw [← upd_self h41, ← upd_self h40, ← upd_self h39, ← upd_self h1]
                refine WC_seq ?_
                refine WC_region ?_
                refine WL_x (x_binop rfl rfl (r_lss _ _ _ _)) ?_
                refine WL_nil ?_
                refine thenE_normal ?_
                refine WC_seq ?_
                refine WC_ifd rfl (fun h42 => ?_) (fun h42 => ?_)
                · have hk42 : k < g.cells.length := by omega
                  refine WC_skip ?_
                  refine thenE_normal ?_
                  refine WC_seq ?_
                  refine WC_block ?_
                  refine WC_seq ?_
                  refine WC_region ?_
                  refine WL_x (x_indexAddr (s := 2) Try.underlying23 (by kernel_rfl) rfl rfl (by omega) (by omega) (H.rsome (l := encs Cel.enc g.cells) .zero (by rw [encs_length Cel.enc Cel.len]; omega)) rfl) ?_
                  refine WL_x (x_loadA (n := 2) (vs := (g.cells[k]).enc) Try.underlying64 rfl (by kernel_rfl) rfl rfl (H.rrange (k := 2) .zero (by rw [Int.toNat_natCast]; exact encs_get Cel.enc Cel.len g.cells k hk42))) ?_
                  refine WL_alloc (l := [(.int .i32 0), (.int .u32 0)]) (by kernel_rfl) H ?_
                  clear H; intro b4 w H
                  first | refine WL_storeA rfl rfl rfl (by kernel_rfl) H .zero (Nat.le_of_ble_eq_true rfl) (splice_all _ _ rfl) ?_ | refine WL_storeA rfl rfl rfl (by kernel_rfl) H (.succ .zero) (Nat.le_of_ble_eq_true rfl) (splice_all _ _ rfl) ?_ | refine WL_storeA rfl rfl rfl (by kernel_rfl) H (.succ (.succ .zero)) (Nat.le_of_ble_eq_true rfl) (splice_all _ _ rfl) ?_ | refine WL_storeA rfl rfl rfl (by kernel_rfl) H (.succ (.succ (.succ .zero))) (Nat.le_of_ble_eq_true rfl) (splice_all _ _ rfl) ?_ | refine WL_storeA rfl rfl rfl (by kernel_rfl) H (.succ (.succ (.succ (.succ .zero)))) (Nat.le_of_ble_eq_true rfl) (splice_all _ _ rfl) ?_
                  clear H; intro w H
                  refine WL_nil ?_
                  refine thenE_normal ?_
                  refine WC_seq ?_
                  refine WC_drawH (m := 6) (listed := [false, false, false, false, false, false]) 6 (by kernel_rfl) rfl rfl H ?_
                  intro w H
                  refine WG_take (i := 0) (listed' := [true, false, false, false, false, false]) rfl (by kernel_rfl) (fun w H => x_fieldAddr (n := 0) (o' := 1) Try.underlying64 rfl (by kernel_rfl) rfl rfl) H rfl ?_
                  first | refine WG_take (i := 1) (listed' := [true, true, false, false, false, false]) rfl (by kernel_rfl) (fun w H => x_load (v := .int .u32 _) Try.underlying62 rfl rfl (H.cellAt .zero rfl)) H rfl ?_ | refine WG_take (i := 1) (listed' := [true, true, false, false, false, false]) rfl (by kernel_rfl) (fun w H => x_load (v := .int .u32 _) Try.underlying62 rfl rfl (H.cellAt (.succ .zero) rfl)) H rfl ?_ | refine WG_take (i := 1) (listed' := [true, true, false, false, false, false]) rfl (by kernel_rfl) (fun w H => x_load (v := .int .u32 _) Try.underlying62 rfl rfl (H.cellAt (.succ (.succ .zero)) rfl)) H rfl ?_ | refine WG_take (i := 1) (listed' := [true, true, false, false, false, false]) rfl (by kernel_rfl) (fun w H => x_load (v := .int .u32 _) Try.underlying62 rfl rfl (H.cellAt (.succ (.succ (.succ .zero))) rfl)) H rfl ?_ | refine WG_take (i := 1) (listed' := [true, true, false, false, false, false]) rfl (by kernel_rfl) (fun w H => x_load (v := .int .u32 _) Try.underlying62 rfl rfl (H.cellAt (.succ (.succ (.succ (.succ .zero)))) rfl)) H rfl ?_ | refine WG_take (i := 1) (listed' := [true, true, false, false, false, false]) rfl (by kernel_rfl) (fun w H => x_load Try.underlying62 rfl rfl (H.rnum .zero (by omega) (by omega))) H rfl ?_ | refine WG_take (i := 1) (listed' := [true, true, false, false, false, false]) rfl (by kernel_rfl) (fun w H => x_load Try.underlying62 rfl rfl (H.rnum (.succ .zero) (by omega) (by omega))) H rfl ?_ | refine WG_take (i := 1) (listed' := [true, true, false, false, false, false]) rfl (by kernel_rfl) (fun w H => x_load Try.underlying62 rfl rfl (H.rnum (.succ (.succ .zero)) (by omega) (by omega))) H rfl ?_ | refine WG_take (i := 1) (listed' := [true, true, false, false, false, false]) rfl (by kernel_rfl) (fun w H => x_load Try.underlying62 rfl rfl (H.onum .zero (by omega) (by omega))) H rfl ?_ | refine WG_take (i := 1) (listed' := [true, true, false, false, false, false]) rfl (by kernel_rfl) (fun w H => x_load Try.underlying62 rfl rfl (H.onum (.succ .zero) (by omega) (by omega))) H rfl ?_ | refine WG_take (i := 1) (listed' := [true, true, false, false, false, false]) rfl (by kernel_rfl) (fun w H => x_load Try.underlying62 rfl rfl (H.onum (.succ (.succ .zero)) (by omega) (by omega))) H rfl ?_
                  refine WG_take (i := 2) (listed' := [true, true, true, false, false, false]) rfl (by kernel_rfl) (fun w H => x_loadA (n := 6) (vs := g.val A ca B cb) Try.underlying26 rfl (by kernel_rfl) rfl rfl (H.rangeAll (.succ .zero) rfl rfl)) H rfl ?_
                  refine WG_mid (i := 3) (listed' := [true, true, true, true, false, false]) rfl rfl (by kernel_rfl) rfl rfl ?_
                  refine WL_call (vs := [.agg (List.toArray _)]) Try.func26 rfl rfl rfl (gall_ok _ g _ _ _ _) ?_
                  rintro _ w ⟨rfl, hf⟩
                  refine ⟨_, rfl, ?_⟩
                  replace H := H.quiet hf
                  refine WL_nil ?_
                  refine mid_mk H ?_
                  refine WG_mid (i := 4) (listed' := [true, true, true, true, true, false]) rfl rfl (by kernel_rfl) rfl rfl ?_
                  refine WL_call (vs := [.int .u32 _, .int .u32 _]) Try.func25 rfl rfl rfl (within_ok _ _ _) ?_
                  rintro _ w ⟨rfl, hf⟩
                  refine ⟨_, rfl, ?_⟩
                  replace H := H.quiet hf
                  refine WL_nil ?_
                  refine mid_mk H ?_
                  refine WG_take (i := 5) (listed' := [true, true, true, true, true, true]) rfl (by kernel_rfl) (fun w H => x_not rfl) H rfl ?_
                  refine WG_done (by kernel_rfl) ?_
                  refine thenE_normal ?_
                  refine WC_ifn rfl (fun h50 => ?_) (fun h50 => ?_)
                  · have hno : g.cells.all (fun c => decide (bits .andNot .u32 c.s (allM g.obs) = 0)) = false := List.all_eq_false.2 ⟨g.cells[k], List.getElem_mem _, by simpa using h50⟩
                    refine WC_seq ?_
                    refine WC_region ?_
                    refine WL_x (x_assign (v := (.bool false)) rfl) ?_
                    refine WL_nil ?_
                    refine thenE_normal ?_
                    refine WC_ret ?_
                    refine inBlockE_ret ?_
                    refine thenE_ret ?_
                    refine thenE_ret ?_
                    refine inBlockE_ret ?_
                    refine thenE_ret ?_
                    refine ends1 (v := .bool _) Try.results11 rfl ?_
                    refine ⟨congrArg (fun b => Ending.returned (Value.bool b)) ?_, H.fr⟩
                    clear H
                    unfold gameRight
                    first
                      | rw [hno, Bool.false_and, Bool.and_false, Bool.and_false, Bool.and_false]
                      | rw [hall2, decide_eq_true (by omega), decide_eq_true (by omega), decide_eq_true (by omega), decide_eq_true (by omega), decide_eq_true (by omega), decide_eq_true (by omega)]; rfl
                      | rw [decide_eq_false (show ¬ (1 ≤ g.obs) by omega), Bool.false_and, Bool.false_and]
                      | rw [decide_eq_false (show ¬ (g.obs ≤ 32) by omega), Bool.and_false, Bool.false_and]
                      | rw [decide_eq_false (show ¬ (1 ≤ g.pl) by omega), Bool.false_and, Bool.false_and, Bool.and_false]
                      | rw [decide_eq_false (show ¬ (g.pl ≤ min 6 g.obs) by omega), Bool.and_false, Bool.false_and, Bool.and_false]
                      | rw [decide_eq_false (show ¬ (g.dflt < g.moves) by omega), Bool.false_and, Bool.false_and, Bool.and_false, Bool.and_false]
                      | rw [decide_eq_false (show ¬ (g.cells.length ≤ 48) by omega), Bool.and_false, Bool.false_and, Bool.and_false, Bool.and_false]
                  · refine WC_skip ?_
                    refine inBlockE_normal ?_
                    refine thenE_normal ?_
                    refine WC_region ?_
                    refine WL_x (x_binop rfl rfl (r_add_in (i64_in (by omega) (by omega)))) ?_
                    refine WL_x (x_move (v := .int .i64 _) rfl) ?_
                    refine WL_nil ?_
                    refine thenE_normal ?_
                    refine ⟨k + 1, ⟨by omega, ?_, by simp [upd], rfl, rfl, rfl, H.drop (by simp) (by simp)⟩, by omega⟩
                    rw [List.take_succ_eq_append_getElem hk42, List.all_append, hall]
                    simpa using h50
                · have hall2 : g.cells.all (fun c => decide (bits .andNot .u32 c.s (allM g.obs) = 0)) = true := by rw [← hall, List.take_of_length_le (by omega)]
                  refine WC_exit ?_
                  refine thenE_exit ?_
                  refine thenE_exit ?_
                  refine inBlockE_exit ?_
                  refine thenE_normal ?_
                  refine WC_seq ?_
                  refine WC_region ?_
                  refine WL_x (x_fieldAddr (n := 0) (o' := 5) Try.underlying26 rfl (by kernel_rfl) rfl rfl) ?_
                  first | refine WL_x (x_load (v := .slice _ _ _) Try.underlying24 rfl rfl (H.cellAt .zero rfl)) ?_ | refine WL_x (x_load (v := .slice _ _ _) Try.underlying24 rfl rfl (H.cellAt (.succ .zero) rfl)) ?_ | refine WL_x (x_load (v := .slice _ _ _) Try.underlying24 rfl rfl (H.cellAt (.succ (.succ .zero)) rfl)) ?_ | refine WL_x (x_load (v := .slice _ _ _) Try.underlying24 rfl rfl (H.cellAt (.succ (.succ (.succ .zero))) rfl)) ?_ | refine WL_x (x_load (v := .slice _ _ _) Try.underlying24 rfl rfl (H.cellAt (.succ (.succ (.succ (.succ .zero)))) rfl)) ?_
                  refine WL_x (x_fieldAddr (n := 0) (o' := 4) Try.underlying26 rfl (by kernel_rfl) rfl rfl) ?_
                  first | refine WL_x (x_load (v := .slice _ _ _) Try.underlying23 rfl rfl (H.cellAt .zero rfl)) ?_ | refine WL_x (x_load (v := .slice _ _ _) Try.underlying23 rfl rfl (H.cellAt (.succ .zero) rfl)) ?_ | refine WL_x (x_load (v := .slice _ _ _) Try.underlying23 rfl rfl (H.cellAt (.succ (.succ .zero)) rfl)) ?_ | refine WL_x (x_load (v := .slice _ _ _) Try.underlying23 rfl rfl (H.cellAt (.succ (.succ (.succ .zero))) rfl)) ?_ | refine WL_x (x_load (v := .slice _ _ _) Try.underlying23 rfl rfl (H.cellAt (.succ (.succ (.succ (.succ .zero)))) rfl)) ?_
                  refine WL_x (x_len Try.underlying23 rfl) ?_
                  refine WL_x (x_fieldAddr (n := 0) (o' := 1) Try.underlying26 rfl (by kernel_rfl) rfl rfl) ?_
                  first | refine WL_x (x_load (v := .int .i64 _) Try.underlying3 rfl rfl (H.cellAt .zero rfl)) ?_ | refine WL_x (x_load (v := .int .i64 _) Try.underlying3 rfl rfl (H.cellAt (.succ .zero) rfl)) ?_ | refine WL_x (x_load (v := .int .i64 _) Try.underlying3 rfl rfl (H.cellAt (.succ (.succ .zero)) rfl)) ?_ | refine WL_x (x_load (v := .int .i64 _) Try.underlying3 rfl rfl (H.cellAt (.succ (.succ (.succ .zero))) rfl)) ?_ | refine WL_x (x_load (v := .int .i64 _) Try.underlying3 rfl rfl (H.cellAt (.succ (.succ (.succ (.succ .zero)))) rfl)) ?_ | refine WL_x (x_load Try.underlying3 rfl rfl (H.rnum .zero (by omega) (by omega))) ?_ | refine WL_x (x_load Try.underlying3 rfl rfl (H.rnum (.succ .zero) (by omega) (by omega))) ?_ | refine WL_x (x_load Try.underlying3 rfl rfl (H.rnum (.succ (.succ .zero)) (by omega) (by omega))) ?_ | refine WL_x (x_load Try.underlying3 rfl rfl (H.onum .zero (by omega) (by omega))) ?_ | refine WL_x (x_load Try.underlying3 rfl rfl (H.onum (.succ .zero) (by omega) (by omega))) ?_ | refine WL_x (x_load Try.underlying3 rfl rfl (H.onum (.succ (.succ .zero)) (by omega) (by omega))) ?_
                  refine WL_call (vs := [.slice _ _ _, .int .i64 _, .int .i64 _]) Try.func27 rfl rfl rfl (codeRight_ok _ g.code B _ _ _ (H.rget (Has.mem (.succ .zero))) hg.nd hg.code (by omega) ⟨hg.pl0, hg.pl1⟩) ?_
                  rintro _ w ⟨rfl, hf⟩
                  refine ⟨_, rfl, ?_⟩
                  replace H := H.quiet hf
                  refine WL_x (x_assign (v := .bool _) rfl) ?_
                  refine WL_nil ?_
                  refine thenE_normal ?_
                  refine WC_ret ?_
                  refine ends1 (v := .bool _) Try.results11 rfl ?_
                  refine ⟨congrArg (fun b => Ending.returned (Value.bool b)) ?_, H.fr⟩
                  clear H
                  unfold gameRight
                  first
                    | rw [hno, Bool.false_and, Bool.and_false, Bool.and_false, Bool.and_false]
                    | rw [hall2, decide_eq_true (by omega), decide_eq_true (by omega), decide_eq_true (by omega), decide_eq_true (by omega), decide_eq_true (by omega), decide_eq_true (by omega)]; rfl
                    | rw [decide_eq_false (show ¬ (1 ≤ g.obs) by omega), Bool.false_and, Bool.false_and]
                    | rw [decide_eq_false (show ¬ (g.obs ≤ 32) by omega), Bool.and_false, Bool.false_and]
                    | rw [decide_eq_false (show ¬ (1 ≤ g.pl) by omega), Bool.false_and, Bool.false_and, Bool.and_false]
                    | rw [decide_eq_false (show ¬ (g.pl ≤ min 6 g.obs) by omega), Bool.and_false, Bool.false_and, Bool.and_false]
                    | rw [decide_eq_false (show ¬ (g.dflt < g.moves) by omega), Bool.false_and, Bool.false_and, Bool.and_false, Bool.and_false]
                    | rw [decide_eq_false (show ¬ (g.cells.length ≤ 48) by omega), Bool.and_false, Bool.false_and, Bool.and_false, Bool.and_false]
end Go.Proofs.Ytecdgmdkepiopaa
