import Derived.Test.YtjagiknmaoilhaaHWMap
import Derived.Test.YtjagiknmaoilhaaHWD1
import Derived.Test.YtjagiknmaoilhaaHWOpen
import Derived.Test.YtjagiknmaoilhaaHWSort2
import Derived.Test.YtjagiknmaoilhaaProg
import Derived.KernelRfl
set_option linter.unusedSimpArgs false
set_option linter.unusedVariables false
set_option linter.unusedSectionVars false
namespace Go.Proofs.Ytjagiknmaoilhaa
open Go Go.HW Go.RowKit
attribute [local irreducible] WL WC WG wpList Code.wp

theorem roll_first : rollX 0 = 3793791033 := by decide +kernel
theorem step_first : stepS 0 ≠ 0 := by decide +kernel

theorem awake_ok (W : World) : Calls Try.prog 4 #[] W fun e w' => e = .returned (.bool true) ∧ Fr [] W w' := by
  have H : St W [] [] [] W := St.start [] (by simp)
  refine calls_enter (N := 15) Try.func4 rfl Try.ntmps4 rfl ?_
  refine WC_seq ?_
  refine WC_region ?_
  refine WL_x (x_assign (v := (.bool false)) rfl) ?_
  refine WL_nil ?_
  refine thenE_normal ?_
  refine WC_seq ?_
  refine WC_region ?_
  refine WL_x (x_buildS (pl := [(0, 1)]) (zero := [(.int .u64 0)]) (cells := [_]) (vs := []) Try.underlying27 (by kernel_rfl) (by kernel_rfl) (by kernel_rfl) rfl rfl) ?_
  refine WL_call (vs := [.agg (List.toArray _)]) Try.func10 rfl rfl rfl (next_ok _ _) ?_
  rintro _ w ⟨rfl, hf⟩
  refine ⟨_, rfl, ?_⟩
  replace H := H.quiet hf
  refine WL_x (x_move (v := .tuple _) rfl) ?_
  refine WL_x (x_extract (v := .int .u32 _) rfl rfl) ?_
  refine WL_x (x_extract (v := .agg (List.toArray _)) rfl rfl) ?_
  refine WL_alloc (l := [(.int .u64 0)]) (by kernel_rfl) H ?_
  clear H; intro b2 w H
  refine WL_x (x_assign (v := .int .u32 _) rfl) ?_
  first | refine WL_storeA rfl rfl rfl (by kernel_rfl) H .zero (Nat.le_of_ble_eq_true rfl) (splice_all _ _ rfl) ?_ | refine WL_storeA rfl rfl rfl (by kernel_rfl) H (.succ .zero) (Nat.le_of_ble_eq_true rfl) (splice_all _ _ rfl) ?_ | refine WL_storeA rfl rfl rfl (by kernel_rfl) H (.succ (.succ .zero)) (Nat.le_of_ble_eq_true rfl) (splice_all _ _ rfl) ?_ | refine WL_storeA rfl rfl rfl (by kernel_rfl) H (.succ (.succ (.succ .zero))) (Nat.le_of_ble_eq_true rfl) (splice_all _ _ rfl) ?_ | refine WL_storeA rfl rfl rfl (by kernel_rfl) H (.succ (.succ (.succ (.succ .zero)))) (Nat.le_of_ble_eq_true rfl) (splice_all _ _ rfl) ?_
  clear H; intro w H
  refine WL_nil ?_
  refine thenE_normal ?_
  refine WC_seq ?_
  refine WC_region ?_
  refine WL_x (x_move (v := .int .u32 _) rfl) ?_
  refine WL_x (x_binop rfl rfl (r_eql _ _ _ _)) ?_
  refine WL_x (x_move (v := .bool _) rfl) ?_
  first | refine WL_cased (t := 10) rfl (fun h10 => ?_) (fun h10 => ?_) | refine WL_casen (t := 10) rfl (fun h10 => ?_) (fun h10 => ?_) | refine WL_case (t := 10) rfl (fun h10 => ?_) (fun h10 => ?_)
  · refine WL_guard_yes rfl rfl rfl ?_
    refine WL_x (x_fieldAddr (n := 0) (o' := 0) Try.underlying27 rfl (by kernel_rfl) rfl rfl) ?_
    refine WL_guard_yes rfl rfl rfl ?_
    first | refine WL_x (x_load (v := .int .u64 _) Try.underlying22 rfl rfl (H.cellAt .zero rfl)) ?_ | refine WL_x (x_load (v := .int .u64 _) Try.underlying22 rfl rfl (H.cellAt (.succ .zero) rfl)) ?_ | refine WL_x (x_load (v := .int .u64 _) Try.underlying22 rfl rfl (H.cellAt (.succ (.succ .zero)) rfl)) ?_ | refine WL_x (x_load (v := .int .u64 _) Try.underlying22 rfl rfl (H.cellAt (.succ (.succ (.succ .zero))) rfl)) ?_ | refine WL_x (x_load (v := .int .u64 _) Try.underlying22 rfl rfl (H.cellAt (.succ (.succ (.succ (.succ .zero)))) rfl)) ?_ | refine WL_x (x_load Try.underlying22 rfl rfl (H.rnum .zero (by omega) (by omega))) ?_ | refine WL_x (x_load Try.underlying22 rfl rfl (H.rnum (.succ .zero) (by omega) (by omega))) ?_ | refine WL_x (x_load Try.underlying22 rfl rfl (H.rnum (.succ (.succ .zero)) (by omega) (by omega))) ?_ | refine WL_x (x_load Try.underlying22 rfl rfl (H.onum .zero (by omega) (by omega))) ?_ | refine WL_x (x_load Try.underlying22 rfl rfl (H.onum (.succ .zero) (by omega) (by omega))) ?_ | refine WL_x (x_load Try.underlying22 rfl rfl (H.onum (.succ (.succ .zero)) (by omega) (by omega))) ?_
    refine WL_guard_yes rfl rfl rfl ?_
    refine WL_x (x_binop rfl rfl (r_neq _ _ _ _)) ?_
    refine WL_x (x_pick (v := .bool _) rfl rfl) ?_
    refine WL_x (x_assign (v := .bool _) rfl) ?_
    refine WL_nil ?_
    refine thenE_normal ?_
    refine WC_ret ?_
    refine ends1 (v := .bool _) Try.results4 rfl ?_
    exact ⟨by rw [decide_eq_true step_first], H.fr⟩
  · exact absurd roll_first h10

set_option maxHeartbeats 1000000 in
theorem shuffles_ok (W : World) (s : Int) (zs : List Int) (A : Option Addr) (c : Nat) (hx : Cells W A (nums .i32 zs)) (hs : 0 ≤ s ∧ s < 18446744073709551616) (hc : zs.length ≤ c ∧ c ≤ maxLen) :
    Calls Try.prog 3 #[.int .u64 s, .slice A zs.length c] W fun e w' => e = .returned (.bool true) ∧ Fr [] W w' := by
  have H : St W [] [] [Go.HW.cells A (nums .i32 zs)] W := St.start [] (by simp; exact cells_ok hx)
  refine calls_enter (N := 81) Try.func3 rfl Try.ntmps3 rfl ?_
  refine WC_seq ?_
  refine WC_region ?_
  refine WL_x (x_assign (v := (.bool false)) rfl) ?_
  refine WL_nil ?_
  refine thenE_normal ?_
  refine WC_seq ?_
  refine WC_seq ?_
  refine WC_region ?_
  refine WL_call (vs := []) Try.func4 rfl rfl rfl (awake_ok _) ?_
  rintro _ w ⟨rfl, hf⟩
  refine ⟨_, rfl, ?_⟩
  replace H := H.quiet hf
  refine WL_x (x_not rfl) ?_
  refine WL_nil ?_
  refine thenE_normal ?_
  refine WC_no rfl ?_
  refine WC_skip ?_
  refine thenE_normal ?_
  refine WC_seq ?_
  refine WC_region ?_
  refine WL_buildSliceS (s := 1) (z0 := [.int .i32 0]) (zero := []) (cells := []) (vs := []) Try.underlying23 (by kernel_rfl) (by kernel_rfl) rfl rfl rfl rfl H ?_
  intro b5 w H
  replace H := H.toRow 0 1 .zero rfl (by simp [maxLen])
  refine WL_x (x_move (v := .slice _ _ _) rfl) ?_
  refine WL_x (x_move (v := .slice _ _ _) rfl) ?_
  refine WL_x (x_len Try.underlying23 rfl) ?_
  refine WL_x (x_min rfl rfl) ?_
  refine WL_x (x_slice_h (s := 1) Try.underlying23 (by kernel_rfl) rfl rfl (by omega) (by omega)) ?_
  obtain ⟨kk, hkk, hkk2⟩ : ∃ kk : Nat, (min (zs.length : Int) 100).toNat = kk ∧ kk = min zs.length 100 := ⟨_, rfl, by omega⟩
  rw [hkk]
  obtain ⟨d, hd⟩ : ∃ d : Array Int, d.toList = zs.take kk := ⟨(zs.take kk).toArray, rfl⟩
  have hdl : d.toList.length = kk := by rw [hd, List.length_take]; omega
  have hdz : d.size = kk := size_of hdl
  refine WL_append (i := Try.t21) (bytes := 4) (size := 1) Try.underlying23 (by kernel_rfl) rfl rfl rfl (by kernel_rfl) rfl rfl rfl H (fun _ _ => .zero) (by rw [nums_length, hdl, Nat.mul_one]) (show Cells _ A (nums .i32 d.toList) from (by have := (H.rcells .zero).take kk; rw [nums, ← List.map_take, ← hd] at this; exact this)) (nums_one _ _) (by simp only [maxLen]; omega) (by omega) ?_
  intro A21 c21 w H
  simp only [Nat.zero_add, List.nil_append] at H
  rw [Nat.zero_add]
  refine WL_x (x_assign (v := .slice _ _ _) rfl) ?_
  refine WL_nil ?_
  refine thenE_normal ?_
  refine WC_seq ?_
  refine WC_region ?_
  refine WL_x (x_move (v := .slice _ _ _) rfl) ?_
  refine WL_call (vs := [.slice _ _ _]) Try.func5 rfl rfl rfl (clone_i32 _ d.toList A21 c21 kk hdl (H.ocells .zero) (by omega)) ?_
  rintro _ w ⟨A23, c23, rfl, hf, hok, hfr⟩
  refine ⟨_, rfl, ?_⟩
  replace H := H.new hf hok hfr
  refine WL_x (x_assign (v := .slice _ _ _) rfl) ?_
  refine WL_nil ?_
  refine thenE_normal ?_
  refine WC_seq ?_
  refine WC_region ?_
  refine WL_x (x_move (v := .int .u64 _) rfl) ?_
  refine WL_x (x_buildS (pl := [(0, 1)]) (zero := [(.int .u64 0)]) (cells := [_]) (vs := [(0, .int .u64 _)]) Try.underlying27 (by kernel_rfl) (by kernel_rfl) (by kernel_rfl) rfl rfl) ?_
  refine WL_x (x_move (v := .slice _ _ _) rfl) ?_
  refine WL_call (vs := [.agg (List.toArray _), .slice _ _ _]) Try.func6 rfl rfl rfl (shuffle_i32 _ s d A21 c21 kk (H.ocells (.succ .zero)) hdl (by omega)) ?_
  rintro _ w ⟨A28, c28, rfl, hf, hok, hfr⟩
  refine ⟨_, rfl, ?_⟩
  replace H := H.new hf hok hfr
  refine WL_x (x_move (v := .tuple _) rfl) ?_
  refine WL_x (x_extract (v := .slice _ _ _) rfl rfl) ?_
  refine WL_x (x_extract (v := .agg (List.toArray _)) rfl rfl) ?_
  refine WL_alloc (l := [(.int .u64 0)]) (by kernel_rfl) H ?_
  clear H; intro b7 w H
  refine WL_x (x_assign (v := .slice _ _ _) rfl) ?_
  first | refine WL_storeA rfl rfl rfl (by kernel_rfl) H .zero (Nat.le_of_ble_eq_true rfl) (splice_all _ _ rfl) ?_ | refine WL_storeA rfl rfl rfl (by kernel_rfl) H (.succ .zero) (Nat.le_of_ble_eq_true rfl) (splice_all _ _ rfl) ?_ | refine WL_storeA rfl rfl rfl (by kernel_rfl) H (.succ (.succ .zero)) (Nat.le_of_ble_eq_true rfl) (splice_all _ _ rfl) ?_ | refine WL_storeA rfl rfl rfl (by kernel_rfl) H (.succ (.succ (.succ .zero))) (Nat.le_of_ble_eq_true rfl) (splice_all _ _ rfl) ?_ | refine WL_storeA rfl rfl rfl (by kernel_rfl) H (.succ (.succ (.succ (.succ .zero)))) (Nat.le_of_ble_eq_true rfl) (splice_all _ _ rfl) ?_ | refine WL_storeA rfl rfl rfl (by kernel_rfl) H (.succ (.succ (.succ (.succ (.succ .zero))))) (Nat.le_of_ble_eq_true rfl) (splice_all _ _ rfl) ?_ | refine WL_storeA rfl rfl rfl (by kernel_rfl) H (.succ (.succ (.succ (.succ (.succ (.succ .zero)))))) (Nat.le_of_ble_eq_true rfl) (splice_all _ _ rfl) ?_
  clear H; intro w H
  refine WL_nil ?_
  refine thenE_normal ?_
  refine WC_seq ?_
  refine WC_region ?_
  refine WL_x (x_move (v := .int .u64 _) rfl) ?_
  refine WL_x (x_move (v := .slice _ _ _) rfl) ?_
  refine WL_call (vs := [.int .u64 _, .slice _ _ _]) Try.func7 rfl rfl rfl (rshuffle_i32 _ s d A23 c23 kk (H.ocells (.succ (.succ .zero))) hdl (by omega)) ?_
  rintro _ w ⟨A34, c34, rfl, hf, hok, hfr⟩
  refine ⟨_, rfl, ?_⟩
  replace H := H.new hf hok hfr
  have hperm : (shufM kk s d).1.toList.Perm d.toList := shufM_perm kk s d (by omega) (by omega)
  have hsl : (shufM kk s d).1.toList.length = kk := hperm.length_eq.trans hdl
  refine WL_x (x_move (v := .tuple _) rfl) ?_
  refine WL_x (x_extract (v := .slice _ _ _) rfl rfl) ?_
  refine WL_x (x_extract (v := .int .u64 _) rfl rfl) ?_
  refine WL_x (x_assign (v := .slice _ _ _) rfl) ?_
  refine WL_x (x_assign (v := .int .u64 _) rfl) ?_
  refine WL_nil ?_
  refine thenE_normal ?_
  refine WC_seq ?_
  refine WC_seq ?_
  refine WC_region ?_
  refine WL_x (x_move (v := .slice _ _ _) rfl) ?_
  refine WL_x (x_move (v := .slice _ _ _) rfl) ?_
  refine WL_call (vs := [.slice _ _ _, .slice _ _ _]) Try.func8 rfl rfl rfl (equal_i32 _ _ _ A28 A34 c28 c34 kk kk hsl hsl (H.ocells (.succ (.succ .zero))) (H.ocells .zero) (by simp only [maxLen]; omega)) ?_
  rintro _ w ⟨rfl, hf⟩
  refine ⟨_, rfl, ?_⟩
  replace H := H.quiet hf
  rw [decide_eq_true rfl]
  refine WL_x (x_not rfl) ?_
  refine WL_x (x_move (v := .bool _) rfl) ?_
  refine WL_guard_yes rfl rfl rfl ?_
  refine WL_x (x_fieldAddr (n := 0) (o' := 0) Try.underlying27 rfl (by kernel_rfl) rfl rfl) ?_
  refine WL_guard_yes rfl rfl rfl ?_
  first | refine WL_x (x_load (v := .int .u64 _) Try.underlying22 rfl rfl (H.cellAt .zero rfl)) ?_ | refine WL_x (x_load (v := .int .u64 _) Try.underlying22 rfl rfl (H.cellAt (.succ .zero) rfl)) ?_ | refine WL_x (x_load (v := .int .u64 _) Try.underlying22 rfl rfl (H.cellAt (.succ (.succ .zero)) rfl)) ?_ | refine WL_x (x_load (v := .int .u64 _) Try.underlying22 rfl rfl (H.cellAt (.succ (.succ (.succ .zero))) rfl)) ?_ | refine WL_x (x_load (v := .int .u64 _) Try.underlying22 rfl rfl (H.cellAt (.succ (.succ (.succ (.succ .zero)))) rfl)) ?_ | refine WL_x (x_load (v := .int .u64 _) Try.underlying22 rfl rfl (H.cellAt (.succ (.succ (.succ (.succ (.succ .zero))))) rfl)) ?_ | refine WL_x (x_load (v := .int .u64 _) Try.underlying22 rfl rfl (H.cellAt (.succ (.succ (.succ (.succ (.succ (.succ .zero)))))) rfl)) ?_ | refine WL_x (x_load Try.underlying22 rfl rfl (H.rnum .zero (by omega) (by omega))) ?_ | refine WL_x (x_load Try.underlying22 rfl rfl (H.rnum (.succ .zero) (by omega) (by omega))) ?_ | refine WL_x (x_load Try.underlying22 rfl rfl (H.rnum (.succ (.succ .zero)) (by omega) (by omega))) ?_ | refine WL_x (x_load Try.underlying22 rfl rfl (H.onum .zero (by omega) (by omega))) ?_ | refine WL_x (x_load Try.underlying22 rfl rfl (H.onum (.succ .zero) (by omega) (by omega))) ?_ | refine WL_x (x_load Try.underlying22 rfl rfl (H.onum (.succ (.succ .zero)) (by omega) (by omega))) ?_
  refine WL_guard_yes rfl rfl rfl ?_
  refine WL_x (x_move (v := .int .u64 _) rfl) ?_
  refine WL_guard_yes rfl rfl rfl ?_
  refine WL_x (x_binop rfl rfl (r_neq _ _ _ _)) ?_
  refine WL_x (x_pick (v := .bool _) rfl rfl) ?_
  refine WL_x (x_move (v := .bool _) rfl) ?_
  first | refine WL_cased (t := 47) rfl (fun h47 => ?_) (fun h47 => ?_) | refine WL_casen (t := 47) rfl (fun h47 => ?_) (fun h47 => ?_) | refine WL_case (t := 47) rfl (fun h47 => ?_) (fun h47 => ?_)
  · exact absurd rfl h47
  · refine WL_guard_yes rfl rfl rfl ?_
    refine WL_x (x_move (v := .slice _ _ _) rfl) ?_
    refine WL_guard_yes rfl rfl rfl ?_
    refine WL_x (x_move (v := .slice _ _ _) rfl) ?_
    refine WL_guard_yes rfl rfl rfl ?_
    refine WL_call (vs := [.slice _ _ _, .slice _ _ _]) Try.func8 rfl rfl rfl (equal_i32 _ _ _ A21 A23 c21 c23 kk kk hdl hdl (H.ocells (.succ (.succ (.succ (.succ .zero))))) (H.ocells (.succ (.succ (.succ .zero)))) (by simp only [maxLen]; omega)) ?_
    rintro _ w ⟨rfl, hf⟩
    refine ⟨_, rfl, ?_⟩
    replace H := H.quiet hf
    rw [decide_eq_true rfl]
    refine WL_guard_yes rfl rfl rfl ?_
    refine WL_x (x_not rfl) ?_
    refine WL_x (x_pick (v := .bool _) rfl rfl) ?_
    refine WL_nil ?_
    refine thenE_normal ?_
    refine WC_no rfl ?_
    refine WC_skip ?_
    refine thenE_normal ?_
    refine WC_seq ?_
    refine WC_region ?_
    refine WL_x (x_move (v := .slice _ _ _) rfl) ?_
    refine WL_call (vs := [.slice _ _ _]) Try.func5 rfl rfl rfl (clone_i32 _ _ A28 c28 kk hsl (H.ocells (.succ (.succ .zero))) (by omega)) ?_
    rintro _ w ⟨A54, c54, rfl, hf, hok, hfr⟩
    refine ⟨_, rfl, ?_⟩
    replace H := H.new hf hok hfr
    refine WL_x (x_move (v := .slice _ _ _) rfl) ?_
    refine WL_call (vs := [.slice _ _ _]) Try.func5 rfl rfl rfl (clone_i32 _ _ A23 c23 kk hdl (H.ocells (.succ (.succ (.succ (.succ .zero))))) (by omega)) ?_
    rintro _ w ⟨A56, c56, rfl, hf, hok, hfr⟩
    refine ⟨_, rfl, ?_⟩
    replace H := H.new hf hok hfr
    refine WL_x (x_assign (v := .slice _ _ _) rfl) ?_
    refine WL_x (x_assign (v := .slice _ _ _) rfl) ?_
    refine WL_nil ?_
    refine thenE_normal ?_
    refine WC_seq ?_
    refine WC_seq ?_
    refine WC_region ?_
    refine WL_x (x_move (v := .slice _ _ _) rfl) ?_
    refine WL_x (x_len Try.underlying23 rfl) ?_
    refine WL_x (x_move (v := (.int .i64 0)) rfl) ?_
    refine WL_nil ?_
    refine thenE_normal ?_
    refine WC_block ?_
    refine WC_while (fun (q : Nat × List Int) f w' => q.1 ≤ kk ∧ q.2.length = kk ∧ f 59 = .int .i64 q.1 ∧ f 58 = .int .i64 kk ∧ f 1 = .slice A21 kk c21 ∧ f 5 = .slice A23 kk c23 ∧ f 6 = .slice A28 kk c28 ∧ f 10 = .slice A54 kk c54 ∧ f 11 = .slice A56 kk c56 ∧ St W [] [row A56 c56 21 1 kk (nums .i32 d.toList), row A54 c54 21 1 kk (nums .i32 (shufM kk s d).1.toList), row A34 c34 21 1 kk (nums .i32 (shufM kk s d).1.toList), blk b7 [.int .u64 (shufM kk s d).2] 27, row A28 c28 21 1 kk (nums .i32 q.2), row A23 c23 21 1 kk (nums .i32 d.toList), row A21 c21 21 1 kk (nums .i32 d.toList)] [Go.HW.cells A (nums .i32 zs)] w') (fun q => kk - q.1) (s0 := (0, (shufM kk s d).1.toList)) ?_ ?_
    · exact ⟨Nat.zero_le _, hsl, rfl, rfl, rfl, rfl, rfl, rfl, rfl, H⟩
    · clear H
      rintro ⟨i, X⟩ f w ⟨hi, hX, h59, h58, h1, h5, h6, h10, h11, H⟩
      simp only at hi hX h59 h58 h1 h5 h6 h10 h11 H
      rw [← upd_self h59, ← upd_self h58, ← upd_self h1, ← upd_self h5, ← upd_self h6, ← upd_self h10, ← upd_self h11]
      refine WC_seq ?_
      refine WC_region ?_
      refine WL_x (x_binop rfl rfl (r_lss _ _ _ _)) ?_
      refine WL_nil ?_
      refine thenE_normal ?_
      refine WC_seq ?_
      refine WC_ifd rfl (fun h60 => ?_) (fun h60 => ?_)
      · refine WC_skip ?_
        refine thenE_normal ?_
        refine WC_seq ?_
        refine WC_block ?_
        refine WC_seq ?_
        refine WC_region ?_
        refine WL_x (x_move (v := .int .i64 _) rfl) ?_
        refine WL_x (x_assign (v := .int .i64 _) rfl) ?_
        refine WL_nil ?_
        refine thenE_normal ?_
        refine WC_region ?_
        refine WL_x (x_move (v := .slice _ _ _) rfl) ?_
        refine WL_x (x_move (v := .int .i64 _) rfl) ?_
        refine WL_x (x_indexAddr (s := 1) Try.underlying23 (by kernel_rfl) rfl rfl (by omega) (by omega) (H.osomen (.succ (.succ (.succ (.succ .zero)))) (by omega)) rfl) ?_
        refine WL_x (x_load (v := .int .i32 _) Try.underlying21 rfl rfl (H.onum (.succ (.succ (.succ (.succ .zero)))) (by omega) (by omega))) ?_
        refine WL_x (x_binop rfl rfl (r_add _ _ _ _)) ?_
        refine WL_x (x_indexAddr (s := 1) Try.underlying23 (by kernel_rfl) rfl rfl (by omega) (by omega) (H.osomen (.succ (.succ (.succ (.succ .zero)))) (by omega)) rfl) ?_
        refine WL_storeR (v := .int .i32 _) (o := i) (n := kk) (xs := nums .i32 X) (xs' := nums .i32 (X.set i (IntKind.i32.wrap (nth X i + 1)))) Try.underlying21 rfl rfl rfl rfl (by kernel_rfl) (by omega) H (.succ (.succ (.succ (.succ .zero)))) (by rw [nums_length]; omega) (nums_set _ _ _ _) ?_
        clear H; intro w H
        refine WL_nil ?_
        refine inBlockE_normal ?_
        refine thenE_normal ?_
        refine WC_region ?_
        refine WL_x (x_binop rfl rfl (r_add_in (i64_in (by omega) (by omega)))) ?_
        refine WL_x (x_move (v := .int .i64 _) rfl) ?_
        refine WL_nil ?_
        refine thenE_normal ?_
        exact ⟨(i + 1, X.set i (IntKind.i32.wrap (nth X i + 1))), ⟨by simp only; omega, by simp only; rw [List.length_set]; exact hX, rfl, rfl, rfl, rfl, rfl, rfl, rfl, H⟩, by simp only; omega⟩
      · refine WC_exit ?_
        refine thenE_exit ?_
        refine thenE_exit ?_
        refine inBlockE_exit ?_
        refine thenE_normal ?_
        refine WC_seq ?_
        refine WC_region ?_
        refine WL_x (x_move (v := .slice _ _ _) rfl) ?_
        refine WL_call (vs := [.slice _ _ _]) Try.func9 rfl rfl rfl (sortX_i32 _ (shufM kk s d).1 A54 c54 kk (H.ok _ (Has.mem (.succ .zero))) hsl (by omega)) ?_
        rintro _ w ⟨D, rfl, hf, hok, hD1, hD2⟩
        refine ⟨_, rfl, ?_⟩
        replace H := H.turn (.succ .zero) hf (fun _ h => .inl h) hok (fun _ h => .inl h)
        refine WL_nil ?_
        refine thenE_normal ?_
        refine WC_seq ?_
        refine WC_region ?_
        refine WL_x (x_move (v := .slice _ _ _) rfl) ?_
        refine WL_call (vs := [.slice _ _ _]) Try.func9 rfl rfl rfl (sortX_i32 _ d A56 c56 kk (H.ok _ (Has.mem .zero)) hdl (by omega)) ?_
        rintro _ w ⟨E, rfl, hf, hok, hE1, hE2⟩
        refine ⟨_, rfl, ?_⟩
        replace H := H.turn .zero hf (fun _ h => .inl h) hok (fun _ h => .inl h)
        have hDl : D.toList.length = kk := (permIn_len hD1).trans hsl
        have hEl : E.toList.length = kk := (permIn_len hE1).trans hdl
        have hsame := sorted_same hsl hdl hperm hD1 hD2 hE1 hE2
        refine WL_nil ?_
        refine thenE_normal ?_
        refine WC_seq ?_
        refine WC_region ?_
        refine WL_x (x_move (v := .slice _ _ _) rfl) ?_
        refine WL_x (x_move (v := .slice _ _ _) rfl) ?_
        refine WL_call (vs := [.slice _ _ _, .slice _ _ _]) Try.func8 rfl rfl rfl (equal_i32 _ _ _ A54 A56 c54 c56 kk kk hDl hEl (H.ocells (.succ .zero)) (H.ocells .zero) (by simp only [maxLen]; omega)) ?_
        rintro _ w ⟨rfl, hf⟩
        refine ⟨_, rfl, ?_⟩
        replace H := H.quiet hf
        rw [decide_eq_true hsame]
        refine WL_x (x_move (v := .bool _) rfl) ?_
        refine WL_guard_yes rfl rfl rfl ?_
        refine WL_x (x_move (v := .slice _ _ _) rfl) ?_
        refine WL_guard_yes rfl rfl rfl ?_
        refine WL_x (x_move (v := .slice _ _ _) rfl) ?_
        refine WL_guard_yes rfl rfl rfl ?_
        refine WL_call (vs := [.slice _ _ _, .slice _ _ _]) Try.func8 rfl rfl rfl (equal_i32 _ _ _ A21 A23 c21 c23 kk kk hdl hdl (H.ocells (.succ (.succ (.succ (.succ (.succ (.succ .zero))))))) (H.ocells (.succ (.succ (.succ (.succ (.succ .zero)))))) (by simp only [maxLen]; omega)) ?_
        rintro _ w ⟨rfl, hf⟩
        refine ⟨_, rfl, ?_⟩
        replace H := H.quiet hf
        rw [decide_eq_true rfl]
        refine WL_x (x_pick (v := .bool _) rfl rfl) ?_
        refine WL_x (x_assign (v := .bool _) rfl) ?_
        refine WL_nil ?_
        refine thenE_normal ?_
        refine WC_ret ?_
        refine ends1 (v := .bool _) Try.results3 rfl ?_
        exact ⟨rfl, H.fr⟩
end Go.Proofs.Ytjagiknmaoilhaa
