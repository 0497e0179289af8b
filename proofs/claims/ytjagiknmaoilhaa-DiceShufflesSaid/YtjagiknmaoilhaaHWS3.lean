import Derived.Test.YtjagiknmaoilhaaHWS2
import Derived.Test.YtjagiknmaoilhaaHWMap
import Derived.Test.YtjagiknmaoilhaaHWOpen
import Derived.Test.YtjagiknmaoilhaaHWSort2
import Derived.Test.YtjagiknmaoilhaaProg
import Derived.KernelRfl
set_option linter.unusedSimpArgs false
set_option linter.unusedVariables false
set_option linter.unusedSectionVars false
namespace Go.Proofs.Ytjagiknmaoilhaa
open Go Go.HW Go.RowKit
attribute [local irreducible] WL WC WG wpList Code.wp

theorem len64x_i32 (W : World) (x : Int) (hx : 0 ≤ x ∧ x < 18446744073709551616) : Calls Try.prog 27 #[.int .u64 x] W fun e w' => ∃ v, e = .returned (.int .i64 v) ∧ LenOk x v ∧ Fr [] W w' := by
  have H : St W [] [] [] W := St.start [] (by simp)
  refine calls_enter (N := 25) Try.func27 rfl Try.ntmps27 rfl ?_
  refine WC_seq ?_
  refine WC_region ?_
  refine WL_x (x_assign (v := (.int .i64 0)) rfl) ?_
  refine WL_nil ?_
  refine thenE_normal ?_
  refine WC_cut (fun (kk : Nat) f w' => kk ≤ 32 ∧ f 0 = .int .u64 (x / 2 ^ kk) ∧ f 2 = .int .i64 kk ∧ x / 2 ^ kk < 4294967296 ∧ (0 < x → 0 < x / 2 ^ kk) ∧ St W [] [] [] w') ?_ ?_
  · refine WC_seq ?_
    refine WC_region ?_
    refine WL_x (x_move (v := .int .u64 _) rfl) ?_
    refine WL_x (x_binop rfl rfl (r_geq _ _ _ _)) ?_
    refine WL_nil ?_
    refine thenE_normal ?_
    first | refine WC_ifd rfl (fun h4 => ?_) (fun h4 => ?_) | refine WC_ifn rfl (fun h4 => ?_) (fun h4 => ?_) | refine WC_if rfl (fun h4 => ?_) (fun h4 => ?_)
    · refine WC_seq ?_
      refine WC_region ?_
      refine WL_x (x_move (v := .int .u64 _) rfl) ?_
      refine WL_x (x_binop rfl rfl (r_shr (by omega))) ?_
      refine WL_x (x_assign (v := .int .u64 _) rfl) ?_
      refine WL_nil ?_
      refine thenE_normal ?_
      refine WC_region ?_
      refine WL_x (x_assign (v := (.int .i64 32)) rfl) ?_
      refine WL_nil ?_
      refine thenE_normal ?_
      first
        | exact ⟨32, by omega, congrArg (Value.int .u64) (shr_div rfl), rfl, by omega, by omega, H⟩
        | exact ⟨0, by omega, by show Value.int .u64 x = _; rw [Int.pow_zero, Int.ediv_one], rfl, by rw [Int.pow_zero, Int.ediv_one]; omega, by rw [Int.pow_zero, Int.ediv_one]; omega, H⟩
    · refine WC_skip ?_
      refine thenE_normal ?_
      first
        | exact ⟨32, by omega, congrArg (Value.int .u64) (shr_div rfl), rfl, by omega, by omega, H⟩
        | exact ⟨0, by omega, by show Value.int .u64 x = _; rw [Int.pow_zero, Int.ediv_one], rfl, by rw [Int.pow_zero, Int.ediv_one]; omega, by rw [Int.pow_zero, Int.ediv_one]; omega, H⟩
  · clear H
    rintro kk f w ⟨hk, h0, h2, hlt, hpos, H⟩
    rw [← upd_self h0, ← upd_self h2]
    have hnn : 0 ≤ x / 2 ^ kk := Int.ediv_nonneg hx.1 (Int.le_of_lt (Int.pow_pos (by decide)))
    refine WC_cut (fun (kk : Nat) f w' => kk ≤ 48 ∧ f 0 = .int .u64 (x / 2 ^ kk) ∧ f 2 = .int .i64 kk ∧ x / 2 ^ kk < 65536 ∧ (0 < x → 0 < x / 2 ^ kk) ∧ St W [] [] [] w') ?_ ?_
    · refine WC_seq ?_
      refine WC_region ?_
      refine WL_x (x_move (v := .int .u64 _) rfl) ?_
      refine WL_x (x_binop rfl rfl (r_geq _ _ _ _)) ?_
      refine WL_nil ?_
      refine thenE_normal ?_
      first | refine WC_ifd rfl (fun h8 => ?_) (fun h8 => ?_) | refine WC_ifn rfl (fun h8 => ?_) (fun h8 => ?_) | refine WC_if rfl (fun h8 => ?_) (fun h8 => ?_)
      · refine WC_seq ?_
        refine WC_region ?_
        refine WL_x (x_move (v := .int .u64 _) rfl) ?_
        refine WL_x (x_binop rfl rfl (r_shr (by omega))) ?_
        refine WL_x (x_assign (v := .int .u64 _) rfl) ?_
        refine WL_nil ?_
        refine thenE_normal ?_
        refine WC_region ?_
        refine WL_x (x_move (v := .int .i64 _) rfl) ?_
        refine WL_x (x_binop rfl rfl (r_add_in (i64_in (by omega) (by omega)))) ?_
        refine WL_x (x_assign (v := .int .i64 _) rfl) ?_
        refine WL_nil ?_
        refine thenE_normal ?_
        first
          | exact ⟨kk + 16, by omega, congrArg (Value.int .u64) (by rw [← div_pow_add]; exact shr_div rfl), congrArg (Value.int .i64) (by omega), by rw [← div_pow_add]; omega, by rw [← div_pow_add]; omega, H⟩
          | exact ⟨kk, by omega, rfl, rfl, by omega, hpos, H⟩
      · refine WC_skip ?_
        refine thenE_normal ?_
        first
          | exact ⟨kk + 16, by omega, congrArg (Value.int .u64) (by rw [← div_pow_add]; exact shr_div rfl), congrArg (Value.int .i64) (by omega), by rw [← div_pow_add]; omega, by rw [← div_pow_add]; omega, H⟩
          | exact ⟨kk, by omega, rfl, rfl, by omega, hpos, H⟩
    · clear H hk hlt hpos
      rintro kk f w ⟨hk, h0, h2, hlt, hpos, H⟩
      rw [← upd_self h0, ← upd_self h2]
      have hnn : 0 ≤ x / 2 ^ kk := Int.ediv_nonneg hx.1 (Int.le_of_lt (Int.pow_pos (by decide)))
      refine WC_cut (fun (kk : Nat) f w' => kk ≤ 56 ∧ f 0 = .int .u64 (x / 2 ^ kk) ∧ f 2 = .int .i64 kk ∧ x / 2 ^ kk < 256 ∧ (0 < x → 0 < x / 2 ^ kk) ∧ St W [] [] [] w') ?_ ?_
      · refine WC_seq ?_
        refine WC_region ?_
        refine WL_x (x_move (v := .int .u64 _) rfl) ?_
        refine WL_x (x_binop rfl rfl (r_geq _ _ _ _)) ?_
        refine WL_nil ?_
        refine thenE_normal ?_
        first | refine WC_ifd rfl (fun h14 => ?_) (fun h14 => ?_) | refine WC_ifn rfl (fun h14 => ?_) (fun h14 => ?_) | refine WC_if rfl (fun h14 => ?_) (fun h14 => ?_)
        · refine WC_seq ?_
          refine WC_region ?_
          refine WL_x (x_move (v := .int .u64 _) rfl) ?_
          refine WL_x (x_binop rfl rfl (r_shr (by omega))) ?_
          refine WL_x (x_assign (v := .int .u64 _) rfl) ?_
          refine WL_nil ?_
          refine thenE_normal ?_
          refine WC_region ?_
          refine WL_x (x_move (v := .int .i64 _) rfl) ?_
          refine WL_x (x_binop rfl rfl (r_add_in (i64_in (by omega) (by omega)))) ?_
          refine WL_x (x_assign (v := .int .i64 _) rfl) ?_
          refine WL_nil ?_
          refine thenE_normal ?_
          first
            | exact ⟨kk + 8, by omega, congrArg (Value.int .u64) (by rw [← div_pow_add]; exact shr_div rfl), congrArg (Value.int .i64) (by omega), by rw [← div_pow_add]; omega, by rw [← div_pow_add]; omega, H⟩
            | exact ⟨kk, by omega, rfl, rfl, by omega, hpos, H⟩
        · refine WC_skip ?_
          refine thenE_normal ?_
          first
            | exact ⟨kk + 8, by omega, congrArg (Value.int .u64) (by rw [← div_pow_add]; exact shr_div rfl), congrArg (Value.int .i64) (by omega), by rw [← div_pow_add]; omega, by rw [← div_pow_add]; omega, H⟩
            | exact ⟨kk, by omega, rfl, rfl, by omega, hpos, H⟩
      · clear H hk hlt hpos
        rintro kk f w ⟨hk, h0, h2, hlt, hpos, H⟩
        rw [← upd_self h0, ← upd_self h2]
        have hnn : 0 ≤ x / 2 ^ kk := Int.ediv_nonneg hx.1 (Int.le_of_lt (Int.pow_pos (by decide)))
        refine WC_seq ?_
        refine WC_region ?_
        refine WL_x (x_move (v := .int .i64 _) rfl) ?_
        refine WL_x (x_move (v := .int .u64 _) rfl) ?_
        refine WL_x (x_convert Try.underlying22 Try.underlying5 rfl (u8_in (by omega) (by omega))) ?_
        refine WL_x (x_index_str (n := 256) Try.underlying9 rfl rfl (by kernel_rfl) (by omega) (by omega)) ?_
        refine WL_x (x_convert Try.underlying5 Try.underlying3 rfl rfl) ?_
        refine WL_x (x_binop rfl rfl (r_add _ _ _ _)) ?_
        refine WL_x (x_assign (v := .int .i64 _) rfl) ?_
        refine WL_nil ?_
        refine thenE_normal ?_
        refine WC_ret ?_
        refine ends1 (v := .int .i64 _) Try.results27 rfl ?_
        exact ⟨_, rfl, len_fin (k := kk) (by kernel_rfl) (by omega) rfl hnn hlt hpos, H.fr⟩

theorem bitsLenx_i32 (W : World) (x : Int) (hx : 0 ≤ x ∧ x < 18446744073709551616) : Calls Try.prog 14 #[.int .u64 x] W fun e w' => ∃ v, e = .returned (.int .i64 v) ∧ LenOk x v ∧ Fr [] W w' := by
  have H : St W [] [] [] W := St.start [] (by simp)
  refine calls_enter (N := 8) Try.func14 rfl Try.ntmps14 rfl ?_
  refine WC_seq ?_
  refine WC_region ?_
  refine WL_x (x_assign (v := (.int .i64 0)) rfl) ?_
  refine WL_nil ?_
  refine thenE_normal ?_
  refine WC_seq ?_
  refine WC_no rfl ?_
  refine WC_skip ?_
  refine thenE_normal ?_
  refine WC_seq ?_
  refine WC_region ?_
  refine WL_x (x_move (v := .int .u64 _) rfl) ?_
  refine WL_call (vs := [.int .u64 _]) Try.func27 rfl rfl rfl (len64x_i32 _ _ hx) ?_
  rintro _ w ⟨v, rfl, hv, hf⟩
  refine ⟨_, rfl, ?_⟩
  replace H := H.quiet hf
  refine WL_x (x_assign (v := .int .i64 _) rfl) ?_
  refine WL_nil ?_
  refine thenE_normal ?_
  refine WC_ret ?_
  refine ends1 (v := .int .i64 _) Try.results14 rfl ?_
  exact ⟨_, rfl, hv, H.fr⟩

theorem nextPow_i32 (W : World) (x : Int) (hx : 0 < x ∧ x ≤ 4611686018427387904) : Calls Try.prog 29 #[.int .i64 x] W fun e w' => ∃ p, e = .returned (.int .u64 p) ∧ 1 ≤ p ∧ p ≤ 2 * x ∧ Fr [] W w' := by
  have H : St W [] [] [] W := St.start [] (by simp)
  refine calls_enter (N := 7) Try.func29 rfl Try.ntmps29 rfl ?_
  refine WC_seq ?_
  refine WC_region ?_
  refine WL_x (x_assign (v := (.int .u64 0)) rfl) ?_
  refine WL_nil ?_
  refine thenE_normal ?_
  refine WC_seq ?_
  refine WC_region ?_
  refine WL_x (x_move (v := .int .i64 _) rfl) ?_
  refine WL_x (x_convert Try.underlying3 Try.underlying43 rfl (u64_in (by omega) (by omega))) ?_
  refine WL_call (vs := [.int .u64 _]) Try.func14 rfl rfl rfl (bitsLenx_i32 _ _ (by omega)) ?_
  rintro _ w ⟨v, rfl, hv, hf⟩
  refine ⟨_, rfl, ?_⟩
  replace H := H.quiet hf
  have hv0 := hv.1
  refine WL_x (x_binop rfl rfl (r_shl (by omega))) ?_
  refine WL_x (x_assign (v := .int .u64 _) rfl) ?_
  refine WL_nil ?_
  refine thenE_normal ?_
  refine WC_ret ?_
  refine ends1 (v := .int .u64 _) Try.results29 rfl ?_
  exact ⟨_, rfl, (nextpow hx.1 hx.2 hv).1, (nextpow hx.1 hx.2 hv).2, H.fr⟩

theorem xnext_i32 (W : World) (s : Nat) (r : Int) (h : (blk s [.int .u64 r] 57).ok W) : Calls Try.prog 30 #[.pointer (some ⟨s, 0, none⟩)] W fun e w' => ∃ q, e = .returned (.int .u64 q) ∧ Fr [s] W w' ∧ (blk s [.int .u64 q] 57).ok w' := by
  have H : St W [s] [blk s [.int .u64 r] 57] [] W := St.one h
  refine calls_enter (N := 33) Try.func30 rfl Try.ntmps30 rfl ?_
  refine WC_seq ?_
  refine WC_region ?_
  refine WL_x (x_assign (v := (.int .u64 0)) rfl) ?_
  refine WL_nil ?_
  refine thenE_normal ?_
  refine WC_seq ?_
  refine WC_drawH (m := 10) (listed := [false, false, false, false, false, false, false, false, false, false]) 9 (by kernel_rfl) rfl rfl H ?_
  intro w H
  refine WG_take (i := 0) (listed' := [true, false, false, false, false, false, false, false, false, false]) rfl (by kernel_rfl) (fun w H => x_move (v := .pointer _) rfl) H rfl ?_
  refine WG_take (i := 1) (listed' := [true, true, false, false, false, false, false, false, false, false]) rfl (by kernel_rfl) (fun w H => x_nilCheck rfl) H rfl ?_
  first | refine WG_take (i := 2) (listed' := [true, true, true, false, false, false, false, false, false, false]) rfl (by kernel_rfl) (fun w H => x_load (v := .int .u64 _) Try.underlying57 rfl rfl (H.cellAt .zero rfl)) H rfl ?_ | refine WG_take (i := 2) (listed' := [true, true, true, false, false, false, false, false, false, false]) rfl (by kernel_rfl) (fun w H => x_load (v := .int .u64 _) Try.underlying57 rfl rfl (H.cellAt (.succ .zero) rfl)) H rfl ?_ | refine WG_take (i := 2) (listed' := [true, true, true, false, false, false, false, false, false, false]) rfl (by kernel_rfl) (fun w H => x_load (v := .int .u64 _) Try.underlying57 rfl rfl (H.cellAt (.succ (.succ .zero)) rfl)) H rfl ?_ | refine WG_take (i := 2) (listed' := [true, true, true, false, false, false, false, false, false, false]) rfl (by kernel_rfl) (fun w H => x_load (v := .int .u64 _) Try.underlying57 rfl rfl (H.cellAt (.succ (.succ (.succ .zero))) rfl)) H rfl ?_ | refine WG_take (i := 2) (listed' := [true, true, true, false, false, false, false, false, false, false]) rfl (by kernel_rfl) (fun w H => x_load (v := .int .u64 _) Try.underlying57 rfl rfl (H.cellAt (.succ (.succ (.succ (.succ .zero)))) rfl)) H rfl ?_ | refine WG_take (i := 2) (listed' := [true, true, true, false, false, false, false, false, false, false]) rfl (by kernel_rfl) (fun w H => x_load Try.underlying57 rfl rfl (H.rnum .zero (by omega) (by omega))) H rfl ?_ | refine WG_take (i := 2) (listed' := [true, true, true, false, false, false, false, false, false, false]) rfl (by kernel_rfl) (fun w H => x_load Try.underlying57 rfl rfl (H.rnum (.succ .zero) (by omega) (by omega))) H rfl ?_ | refine WG_take (i := 2) (listed' := [true, true, true, false, false, false, false, false, false, false]) rfl (by kernel_rfl) (fun w H => x_load Try.underlying57 rfl rfl (H.rnum (.succ (.succ .zero)) (by omega) (by omega))) H rfl ?_ | refine WG_take (i := 2) (listed' := [true, true, true, false, false, false, false, false, false, false]) rfl (by kernel_rfl) (fun w H => x_load Try.underlying57 rfl rfl (H.onum .zero (by omega) (by omega))) H rfl ?_ | refine WG_take (i := 2) (listed' := [true, true, true, false, false, false, false, false, false, false]) rfl (by kernel_rfl) (fun w H => x_load Try.underlying57 rfl rfl (H.onum (.succ .zero) (by omega) (by omega))) H rfl ?_ | refine WG_take (i := 2) (listed' := [true, true, true, false, false, false, false, false, false, false]) rfl (by kernel_rfl) (fun w H => x_load Try.underlying57 rfl rfl (H.onum (.succ (.succ .zero)) (by omega) (by omega))) H rfl ?_
  refine WG_take (i := 3) (listed' := [true, true, true, true, false, false, false, false, false, false]) rfl (by kernel_rfl) (fun w H => x_move (v := .pointer _) rfl) H rfl ?_
  refine WG_take (i := 4) (listed' := [true, true, true, true, true, false, false, false, false, false]) rfl (by kernel_rfl) (fun w H => x_nilCheck rfl) H rfl ?_
  first | refine WG_take (i := 5) (listed' := [true, true, true, true, true, true, false, false, false, false]) rfl (by kernel_rfl) (fun w H => x_load (v := .int .u64 _) Try.underlying57 rfl rfl (H.cellAt .zero rfl)) H rfl ?_ | refine WG_take (i := 5) (listed' := [true, true, true, true, true, true, false, false, false, false]) rfl (by kernel_rfl) (fun w H => x_load (v := .int .u64 _) Try.underlying57 rfl rfl (H.cellAt (.succ .zero) rfl)) H rfl ?_ | refine WG_take (i := 5) (listed' := [true, true, true, true, true, true, false, false, false, false]) rfl (by kernel_rfl) (fun w H => x_load (v := .int .u64 _) Try.underlying57 rfl rfl (H.cellAt (.succ (.succ .zero)) rfl)) H rfl ?_ | refine WG_take (i := 5) (listed' := [true, true, true, true, true, true, false, false, false, false]) rfl (by kernel_rfl) (fun w H => x_load (v := .int .u64 _) Try.underlying57 rfl rfl (H.cellAt (.succ (.succ (.succ .zero))) rfl)) H rfl ?_ | refine WG_take (i := 5) (listed' := [true, true, true, true, true, true, false, false, false, false]) rfl (by kernel_rfl) (fun w H => x_load (v := .int .u64 _) Try.underlying57 rfl rfl (H.cellAt (.succ (.succ (.succ (.succ .zero)))) rfl)) H rfl ?_ | refine WG_take (i := 5) (listed' := [true, true, true, true, true, true, false, false, false, false]) rfl (by kernel_rfl) (fun w H => x_load Try.underlying57 rfl rfl (H.rnum .zero (by omega) (by omega))) H rfl ?_ | refine WG_take (i := 5) (listed' := [true, true, true, true, true, true, false, false, false, false]) rfl (by kernel_rfl) (fun w H => x_load Try.underlying57 rfl rfl (H.rnum (.succ .zero) (by omega) (by omega))) H rfl ?_ | refine WG_take (i := 5) (listed' := [true, true, true, true, true, true, false, false, false, false]) rfl (by kernel_rfl) (fun w H => x_load Try.underlying57 rfl rfl (H.rnum (.succ (.succ .zero)) (by omega) (by omega))) H rfl ?_ | refine WG_take (i := 5) (listed' := [true, true, true, true, true, true, false, false, false, false]) rfl (by kernel_rfl) (fun w H => x_load Try.underlying57 rfl rfl (H.onum .zero (by omega) (by omega))) H rfl ?_ | refine WG_take (i := 5) (listed' := [true, true, true, true, true, true, false, false, false, false]) rfl (by kernel_rfl) (fun w H => x_load Try.underlying57 rfl rfl (H.onum (.succ .zero) (by omega) (by omega))) H rfl ?_ | refine WG_take (i := 5) (listed' := [true, true, true, true, true, true, false, false, false, false]) rfl (by kernel_rfl) (fun w H => x_load Try.underlying57 rfl rfl (H.onum (.succ (.succ .zero)) (by omega) (by omega))) H rfl ?_
  refine WG_take (i := 6) (listed' := [true, true, true, true, true, true, true, false, false, false]) rfl (by kernel_rfl) (fun w H => x_binop rfl rfl (r_shl (by omega))) H rfl ?_
  refine WG_take (i := 7) (listed' := [true, true, true, true, true, true, true, true, false, false]) rfl (by kernel_rfl) (fun w H => x_binop rfl rfl (r_xor _ _ _ _)) H rfl ?_
  refine WG_take (i := 8) (listed' := [true, true, true, true, true, true, true, true, true, false]) rfl (by kernel_rfl) (fun w H => x_nilCheck rfl) H rfl ?_
  refine WG_fin (listed' := [true, true, true, true, true, true, true, true, true, true]) rfl rfl (by kernel_rfl) rfl (by kernel_rfl) ?_
  first | refine WL_store (v := .int .u64 _) Try.underlying57 rfl rfl rfl rfl (by kernel_rfl) H .zero (Nat.le_of_ble_eq_true rfl) rfl ?_ | refine WL_store (v := .int .u64 _) Try.underlying57 rfl rfl rfl rfl (by kernel_rfl) H (.succ .zero) (Nat.le_of_ble_eq_true rfl) rfl ?_ | refine WL_store (v := .int .u64 _) Try.underlying57 rfl rfl rfl rfl (by kernel_rfl) H (.succ (.succ .zero)) (Nat.le_of_ble_eq_true rfl) rfl ?_ | refine WL_store (v := .int .u64 _) Try.underlying57 rfl rfl rfl rfl (by kernel_rfl) H (.succ (.succ (.succ .zero))) (Nat.le_of_ble_eq_true rfl) rfl ?_ | refine WL_store (v := .int .u64 _) Try.underlying57 rfl rfl rfl rfl (by kernel_rfl) H (.succ (.succ (.succ (.succ .zero)))) (Nat.le_of_ble_eq_true rfl) rfl ?_
  clear H; intro w H
  try simp only [List.set_cons_succ, List.set_cons_zero] at H
  refine WL_nil ?_
  refine fin_mk ?_
  refine thenE_normal ?_
  refine WC_seq ?_
  refine WC_drawH (m := 10) (listed := [false, false, false, false, false, false, false, false, false, false]) 9 (by kernel_rfl) rfl rfl H ?_
  intro w H
  refine WG_take (i := 0) (listed' := [true, false, false, false, false, false, false, false, false, false]) rfl (by kernel_rfl) (fun w H => x_move (v := .pointer _) rfl) H rfl ?_
  refine WG_take (i := 1) (listed' := [true, true, false, false, false, false, false, false, false, false]) rfl (by kernel_rfl) (fun w H => x_nilCheck rfl) H rfl ?_
  first | refine WG_take (i := 2) (listed' := [true, true, true, false, false, false, false, false, false, false]) rfl (by kernel_rfl) (fun w H => x_load (v := .int .u64 _) Try.underlying57 rfl rfl (H.cellAt .zero rfl)) H rfl ?_ | refine WG_take (i := 2) (listed' := [true, true, true, false, false, false, false, false, false, false]) rfl (by kernel_rfl) (fun w H => x_load (v := .int .u64 _) Try.underlying57 rfl rfl (H.cellAt (.succ .zero) rfl)) H rfl ?_ | refine WG_take (i := 2) (listed' := [true, true, true, false, false, false, false, false, false, false]) rfl (by kernel_rfl) (fun w H => x_load (v := .int .u64 _) Try.underlying57 rfl rfl (H.cellAt (.succ (.succ .zero)) rfl)) H rfl ?_ | refine WG_take (i := 2) (listed' := [true, true, true, false, false, false, false, false, false, false]) rfl (by kernel_rfl) (fun w H => x_load (v := .int .u64 _) Try.underlying57 rfl rfl (H.cellAt (.succ (.succ (.succ .zero))) rfl)) H rfl ?_ | refine WG_take (i := 2) (listed' := [true, true, true, false, false, false, false, false, false, false]) rfl (by kernel_rfl) (fun w H => x_load (v := .int .u64 _) Try.underlying57 rfl rfl (H.cellAt (.succ (.succ (.succ (.succ .zero)))) rfl)) H rfl ?_ | refine WG_take (i := 2) (listed' := [true, true, true, false, false, false, false, false, false, false]) rfl (by kernel_rfl) (fun w H => x_load Try.underlying57 rfl rfl (H.rnum .zero (by omega) (by omega))) H rfl ?_ | refine WG_take (i := 2) (listed' := [true, true, true, false, false, false, false, false, false, false]) rfl (by kernel_rfl) (fun w H => x_load Try.underlying57 rfl rfl (H.rnum (.succ .zero) (by omega) (by omega))) H rfl ?_ | refine WG_take (i := 2) (listed' := [true, true, true, false, false, false, false, false, false, false]) rfl (by kernel_rfl) (fun w H => x_load Try.underlying57 rfl rfl (H.rnum (.succ (.succ .zero)) (by omega) (by omega))) H rfl ?_ | refine WG_take (i := 2) (listed' := [true, true, true, false, false, false, false, false, false, false]) rfl (by kernel_rfl) (fun w H => x_load Try.underlying57 rfl rfl (H.onum .zero (by omega) (by omega))) H rfl ?_ | refine WG_take (i := 2) (listed' := [true, true, true, false, false, false, false, false, false, false]) rfl (by kernel_rfl) (fun w H => x_load Try.underlying57 rfl rfl (H.onum (.succ .zero) (by omega) (by omega))) H rfl ?_ | refine WG_take (i := 2) (listed' := [true, true, true, false, false, false, false, false, false, false]) rfl (by kernel_rfl) (fun w H => x_load Try.underlying57 rfl rfl (H.onum (.succ (.succ .zero)) (by omega) (by omega))) H rfl ?_
  refine WG_take (i := 3) (listed' := [true, true, true, true, false, false, false, false, false, false]) rfl (by kernel_rfl) (fun w H => x_move (v := .pointer _) rfl) H rfl ?_
  refine WG_take (i := 4) (listed' := [true, true, true, true, true, false, false, false, false, false]) rfl (by kernel_rfl) (fun w H => x_nilCheck rfl) H rfl ?_
  first | refine WG_take (i := 5) (listed' := [true, true, true, true, true, true, false, false, false, false]) rfl (by kernel_rfl) (fun w H => x_load (v := .int .u64 _) Try.underlying57 rfl rfl (H.cellAt .zero rfl)) H rfl ?_ | refine WG_take (i := 5) (listed' := [true, true, true, true, true, true, false, false, false, false]) rfl (by kernel_rfl) (fun w H => x_load (v := .int .u64 _) Try.underlying57 rfl rfl (H.cellAt (.succ .zero) rfl)) H rfl ?_ | refine WG_take (i := 5) (listed' := [true, true, true, true, true, true, false, false, false, false]) rfl (by kernel_rfl) (fun w H => x_load (v := .int .u64 _) Try.underlying57 rfl rfl (H.cellAt (.succ (.succ .zero)) rfl)) H rfl ?_ | refine WG_take (i := 5) (listed' := [true, true, true, true, true, true, false, false, false, false]) rfl (by kernel_rfl) (fun w H => x_load (v := .int .u64 _) Try.underlying57 rfl rfl (H.cellAt (.succ (.succ (.succ .zero))) rfl)) H rfl ?_ | refine WG_take (i := 5) (listed' := [true, true, true, true, true, true, false, false, false, false]) rfl (by kernel_rfl) (fun w H => x_load (v := .int .u64 _) Try.underlying57 rfl rfl (H.cellAt (.succ (.succ (.succ (.succ .zero)))) rfl)) H rfl ?_ | refine WG_take (i := 5) (listed' := [true, true, true, true, true, true, false, false, false, false]) rfl (by kernel_rfl) (fun w H => x_load Try.underlying57 rfl rfl (H.rnum .zero (by omega) (by omega))) H rfl ?_ | refine WG_take (i := 5) (listed' := [true, true, true, true, true, true, false, false, false, false]) rfl (by kernel_rfl) (fun w H => x_load Try.underlying57 rfl rfl (H.rnum (.succ .zero) (by omega) (by omega))) H rfl ?_ | refine WG_take (i := 5) (listed' := [true, true, true, true, true, true, false, false, false, false]) rfl (by kernel_rfl) (fun w H => x_load Try.underlying57 rfl rfl (H.rnum (.succ (.succ .zero)) (by omega) (by omega))) H rfl ?_ | refine WG_take (i := 5) (listed' := [true, true, true, true, true, true, false, false, false, false]) rfl (by kernel_rfl) (fun w H => x_load Try.underlying57 rfl rfl (H.onum .zero (by omega) (by omega))) H rfl ?_ | refine WG_take (i := 5) (listed' := [true, true, true, true, true, true, false, false, false, false]) rfl (by kernel_rfl) (fun w H => x_load Try.underlying57 rfl rfl (H.onum (.succ .zero) (by omega) (by omega))) H rfl ?_ | refine WG_take (i := 5) (listed' := [true, true, true, true, true, true, false, false, false, false]) rfl (by kernel_rfl) (fun w H => x_load Try.underlying57 rfl rfl (H.onum (.succ (.succ .zero)) (by omega) (by omega))) H rfl ?_
  refine WG_take (i := 6) (listed' := [true, true, true, true, true, true, true, false, false, false]) rfl (by kernel_rfl) (fun w H => x_binop rfl rfl (r_shr (by omega))) H rfl ?_
  refine WG_take (i := 7) (listed' := [true, true, true, true, true, true, true, true, false, false]) rfl (by kernel_rfl) (fun w H => x_binop rfl rfl (r_xor _ _ _ _)) H rfl ?_
  refine WG_take (i := 8) (listed' := [true, true, true, true, true, true, true, true, true, false]) rfl (by kernel_rfl) (fun w H => x_nilCheck rfl) H rfl ?_
  refine WG_fin (listed' := [true, true, true, true, true, true, true, true, true, true]) rfl rfl (by kernel_rfl) rfl (by kernel_rfl) ?_
  first | refine WL_store (v := .int .u64 _) Try.underlying57 rfl rfl rfl rfl (by kernel_rfl) H .zero (Nat.le_of_ble_eq_true rfl) rfl ?_ | refine WL_store (v := .int .u64 _) Try.underlying57 rfl rfl rfl rfl (by kernel_rfl) H (.succ .zero) (Nat.le_of_ble_eq_true rfl) rfl ?_ | refine WL_store (v := .int .u64 _) Try.underlying57 rfl rfl rfl rfl (by kernel_rfl) H (.succ (.succ .zero)) (Nat.le_of_ble_eq_true rfl) rfl ?_ | refine WL_store (v := .int .u64 _) Try.underlying57 rfl rfl rfl rfl (by kernel_rfl) H (.succ (.succ (.succ .zero))) (Nat.le_of_ble_eq_true rfl) rfl ?_ | refine WL_store (v := .int .u64 _) Try.underlying57 rfl rfl rfl rfl (by kernel_rfl) H (.succ (.succ (.succ (.succ .zero)))) (Nat.le_of_ble_eq_true rfl) rfl ?_
  clear H; intro w H
  try simp only [List.set_cons_succ, List.set_cons_zero] at H
  refine WL_nil ?_
  refine fin_mk ?_
  refine thenE_normal ?_
  refine WC_seq ?_
  refine WC_drawH (m := 10) (listed := [false, false, false, false, false, false, false, false, false, false]) 9 (by kernel_rfl) rfl rfl H ?_
  intro w H
  refine WG_take (i := 0) (listed' := [true, false, false, false, false, false, false, false, false, false]) rfl (by kernel_rfl) (fun w H => x_move (v := .pointer _) rfl) H rfl ?_
  refine WG_take (i := 1) (listed' := [true, true, false, false, false, false, false, false, false, false]) rfl (by kernel_rfl) (fun w H => x_nilCheck rfl) H rfl ?_
  first | refine WG_take (i := 2) (listed' := [true, true, true, false, false, false, false, false, false, false]) rfl (by kernel_rfl) (fun w H => x_load (v := .int .u64 _) Try.underlying57 rfl rfl (H.cellAt .zero rfl)) H rfl ?_ | refine WG_take (i := 2) (listed' := [true, true, true, false, false, false, false, false, false, false]) rfl (by kernel_rfl) (fun w H => x_load (v := .int .u64 _) Try.underlying57 rfl rfl (H.cellAt (.succ .zero) rfl)) H rfl ?_ | refine WG_take (i := 2) (listed' := [true, true, true, false, false, false, false, false, false, false]) rfl (by kernel_rfl) (fun w H => x_load (v := .int .u64 _) Try.underlying57 rfl rfl (H.cellAt (.succ (.succ .zero)) rfl)) H rfl ?_ | refine WG_take (i := 2) (listed' := [true, true, true, false, false, false, false, false, false, false]) rfl (by kernel_rfl) (fun w H => x_load (v := .int .u64 _) Try.underlying57 rfl rfl (H.cellAt (.succ (.succ (.succ .zero))) rfl)) H rfl ?_ | refine WG_take (i := 2) (listed' := [true, true, true, false, false, false, false, false, false, false]) rfl (by kernel_rfl) (fun w H => x_load (v := .int .u64 _) Try.underlying57 rfl rfl (H.cellAt (.succ (.succ (.succ (.succ .zero)))) rfl)) H rfl ?_ | refine WG_take (i := 2) (listed' := [true, true, true, false, false, false, false, false, false, false]) rfl (by kernel_rfl) (fun w H => x_load Try.underlying57 rfl rfl (H.rnum .zero (by omega) (by omega))) H rfl ?_ | refine WG_take (i := 2) (listed' := [true, true, true, false, false, false, false, false, false, false]) rfl (by kernel_rfl) (fun w H => x_load Try.underlying57 rfl rfl (H.rnum (.succ .zero) (by omega) (by omega))) H rfl ?_ | refine WG_take (i := 2) (listed' := [true, true, true, false, false, false, false, false, false, false]) rfl (by kernel_rfl) (fun w H => x_load Try.underlying57 rfl rfl (H.rnum (.succ (.succ .zero)) (by omega) (by omega))) H rfl ?_ | refine WG_take (i := 2) (listed' := [true, true, true, false, false, false, false, false, false, false]) rfl (by kernel_rfl) (fun w H => x_load Try.underlying57 rfl rfl (H.onum .zero (by omega) (by omega))) H rfl ?_ | refine WG_take (i := 2) (listed' := [true, true, true, false, false, false, false, false, false, false]) rfl (by kernel_rfl) (fun w H => x_load Try.underlying57 rfl rfl (H.onum (.succ .zero) (by omega) (by omega))) H rfl ?_ | refine WG_take (i := 2) (listed' := [true, true, true, false, false, false, false, false, false, false]) rfl (by kernel_rfl) (fun w H => x_load Try.underlying57 rfl rfl (H.onum (.succ (.succ .zero)) (by omega) (by omega))) H rfl ?_
  refine WG_take (i := 3) (listed' := [true, true, true, true, false, false, false, false, false, false]) rfl (by kernel_rfl) (fun w H => x_move (v := .pointer _) rfl) H rfl ?_
  refine WG_take (i := 4) (listed' := [true, true, true, true, true, false, false, false, false, false]) rfl (by kernel_rfl) (fun w H => x_nilCheck rfl) H rfl ?_
  first | refine WG_take (i := 5) (listed' := [true, true, true, true, true, true, false, false, false, false]) rfl (by kernel_rfl) (fun w H => x_load (v := .int .u64 _) Try.underlying57 rfl rfl (H.cellAt .zero rfl)) H rfl ?_ | refine WG_take (i := 5) (listed' := [true, true, true, true, true, true, false, false, false, false]) rfl (by kernel_rfl) (fun w H => x_load (v := .int .u64 _) Try.underlying57 rfl rfl (H.cellAt (.succ .zero) rfl)) H rfl ?_ | refine WG_take (i := 5) (listed' := [true, true, true, true, true, true, false, false, false, false]) rfl (by kernel_rfl) (fun w H => x_load (v := .int .u64 _) Try.underlying57 rfl rfl (H.cellAt (.succ (.succ .zero)) rfl)) H rfl ?_ | refine WG_take (i := 5) (listed' := [true, true, true, true, true, true, false, false, false, false]) rfl (by kernel_rfl) (fun w H => x_load (v := .int .u64 _) Try.underlying57 rfl rfl (H.cellAt (.succ (.succ (.succ .zero))) rfl)) H rfl ?_ | refine WG_take (i := 5) (listed' := [true, true, true, true, true, true, false, false, false, false]) rfl (by kernel_rfl) (fun w H => x_load (v := .int .u64 _) Try.underlying57 rfl rfl (H.cellAt (.succ (.succ (.succ (.succ .zero)))) rfl)) H rfl ?_ | refine WG_take (i := 5) (listed' := [true, true, true, true, true, true, false, false, false, false]) rfl (by kernel_rfl) (fun w H => x_load Try.underlying57 rfl rfl (H.rnum .zero (by omega) (by omega))) H rfl ?_ | refine WG_take (i := 5) (listed' := [true, true, true, true, true, true, false, false, false, false]) rfl (by kernel_rfl) (fun w H => x_load Try.underlying57 rfl rfl (H.rnum (.succ .zero) (by omega) (by omega))) H rfl ?_ | refine WG_take (i := 5) (listed' := [true, true, true, true, true, true, false, false, false, false]) rfl (by kernel_rfl) (fun w H => x_load Try.underlying57 rfl rfl (H.rnum (.succ (.succ .zero)) (by omega) (by omega))) H rfl ?_ | refine WG_take (i := 5) (listed' := [true, true, true, true, true, true, false, false, false, false]) rfl (by kernel_rfl) (fun w H => x_load Try.underlying57 rfl rfl (H.onum .zero (by omega) (by omega))) H rfl ?_ | refine WG_take (i := 5) (listed' := [true, true, true, true, true, true, false, false, false, false]) rfl (by kernel_rfl) (fun w H => x_load Try.underlying57 rfl rfl (H.onum (.succ .zero) (by omega) (by omega))) H rfl ?_ | refine WG_take (i := 5) (listed' := [true, true, true, true, true, true, false, false, false, false]) rfl (by kernel_rfl) (fun w H => x_load Try.underlying57 rfl rfl (H.onum (.succ (.succ .zero)) (by omega) (by omega))) H rfl ?_
  refine WG_take (i := 6) (listed' := [true, true, true, true, true, true, true, false, false, false]) rfl (by kernel_rfl) (fun w H => x_binop rfl rfl (r_shl (by omega))) H rfl ?_
  refine WG_take (i := 7) (listed' := [true, true, true, true, true, true, true, true, false, false]) rfl (by kernel_rfl) (fun w H => x_binop rfl rfl (r_xor _ _ _ _)) H rfl ?_
  refine WG_take (i := 8) (listed' := [true, true, true, true, true, true, true, true, true, false]) rfl (by kernel_rfl) (fun w H => x_nilCheck rfl) H rfl ?_
  refine WG_fin (listed' := [true, true, true, true, true, true, true, true, true, true]) rfl rfl (by kernel_rfl) rfl (by kernel_rfl) ?_
  first | refine WL_store (v := .int .u64 _) Try.underlying57 rfl rfl rfl rfl (by kernel_rfl) H .zero (Nat.le_of_ble_eq_true rfl) rfl ?_ | refine WL_store (v := .int .u64 _) Try.underlying57 rfl rfl rfl rfl (by kernel_rfl) H (.succ .zero) (Nat.le_of_ble_eq_true rfl) rfl ?_ | refine WL_store (v := .int .u64 _) Try.underlying57 rfl rfl rfl rfl (by kernel_rfl) H (.succ (.succ .zero)) (Nat.le_of_ble_eq_true rfl) rfl ?_ | refine WL_store (v := .int .u64 _) Try.underlying57 rfl rfl rfl rfl (by kernel_rfl) H (.succ (.succ (.succ .zero))) (Nat.le_of_ble_eq_true rfl) rfl ?_ | refine WL_store (v := .int .u64 _) Try.underlying57 rfl rfl rfl rfl (by kernel_rfl) H (.succ (.succ (.succ (.succ .zero)))) (Nat.le_of_ble_eq_true rfl) rfl ?_
  clear H; intro w H
  try simp only [List.set_cons_succ, List.set_cons_zero] at H
  refine WL_nil ?_
  refine fin_mk ?_
  refine thenE_normal ?_
  refine WC_seq ?_
  refine WC_region ?_
  refine WL_x (x_move (v := .pointer _) rfl) ?_
  refine WL_x (x_nilCheck rfl) ?_
  first | refine WL_x (x_load (v := .int .u64 _) Try.underlying57 rfl rfl (H.cellAt .zero rfl)) ?_ | refine WL_x (x_load (v := .int .u64 _) Try.underlying57 rfl rfl (H.cellAt (.succ .zero) rfl)) ?_ | refine WL_x (x_load (v := .int .u64 _) Try.underlying57 rfl rfl (H.cellAt (.succ (.succ .zero)) rfl)) ?_ | refine WL_x (x_load (v := .int .u64 _) Try.underlying57 rfl rfl (H.cellAt (.succ (.succ (.succ .zero))) rfl)) ?_ | refine WL_x (x_load (v := .int .u64 _) Try.underlying57 rfl rfl (H.cellAt (.succ (.succ (.succ (.succ .zero)))) rfl)) ?_ | refine WL_x (x_load Try.underlying57 rfl rfl (H.rnum .zero (by omega) (by omega))) ?_ | refine WL_x (x_load Try.underlying57 rfl rfl (H.rnum (.succ .zero) (by omega) (by omega))) ?_ | refine WL_x (x_load Try.underlying57 rfl rfl (H.rnum (.succ (.succ .zero)) (by omega) (by omega))) ?_ | refine WL_x (x_load Try.underlying57 rfl rfl (H.onum .zero (by omega) (by omega))) ?_ | refine WL_x (x_load Try.underlying57 rfl rfl (H.onum (.succ .zero) (by omega) (by omega))) ?_ | refine WL_x (x_load Try.underlying57 rfl rfl (H.onum (.succ (.succ .zero)) (by omega) (by omega))) ?_
  refine WL_x (x_assign (v := .int .u64 _) rfl) ?_
  refine WL_nil ?_
  refine thenE_normal ?_
  refine WC_ret ?_
  refine ends1 (v := .int .u64 _) Try.results30 rfl ?_
  exact ⟨_, rfl, H.fr, H.ok _ List.mem_cons_self⟩

set_option maxHeartbeats 1000000 in
theorem brk_i32 (W : World) (d : Array Int) (A : Option Addr) (c n : Nat) (h : (row A c 21 1 n (nums .i32 d.toList)).ok W) (hM : d.toList.length = n) (hsz : n ≤ 2305843009213693952) (a b : Nat) (hab : a ≤ b) (hb : b ≤ n) :
    Calls Try.prog 19 #[.slice A n c, .int .i64 a, .int .i64 b] W fun e w' => ∃ D : Array Int, e = .returned (.tuple #[]) ∧ Fr (row A c 21 1 n (nums .i32 d.toList)).fp W w' ∧ D.toList.length = n ∧ Go.Sort.PermIn a b d D ∧ (row A c 21 1 n (nums .i32 D.toList)).ok w' := by
  have hlen0 := (owns_len h.r)
  unfold maxLen at hlen0
  have H : St W (row A c 21 1 n (nums .i32 d.toList)).fp [row A c 21 1 n (nums .i32 d.toList)] [] W := St.one h
  refine calls_enter (N := 65) Try.func19 rfl Try.ntmps19 rfl ?_
  refine WC_seq ?_
  refine WC_region ?_
  refine WL_x (x_move (v := .int .i64 _) rfl) ?_
  refine WL_x (x_move (v := .int .i64 _) rfl) ?_
  refine WL_x (x_binop rfl rfl (r_sub_in (i64_in (by omega) (by omega)))) ?_
  refine WL_x (x_assign (v := .int .i64 _) rfl) ?_
  refine WL_nil ?_
  refine thenE_normal ?_
  refine WC_seq ?_
  refine WC_region ?_
  refine WL_x (x_move (v := .int .i64 _) rfl) ?_
  refine WL_x (x_binop rfl rfl (r_geq _ _ _ _)) ?_
  refine WL_nil ?_
  refine thenE_normal ?_
  refine WC_ifd rfl (fun h15 => ?_) (fun h15 => ?_)
  · refine WC_seq ?_
    refine WC_region ?_
    refine WL_x (x_move (v := .int .i64 _) rfl) ?_
    refine WL_x (x_convert Try.underlying3 Try.underlying57 rfl rfl) ?_
    refine WL_alloc (l := [(.int .u64 0)]) (by kernel_rfl) H ?_
    clear H; intro b7 w H
    first | refine WL_store (v := .int .u64 _) Try.underlying57 rfl rfl rfl rfl (by kernel_rfl) H .zero (Nat.le_of_ble_eq_true rfl) rfl ?_ | refine WL_store (v := .int .u64 _) Try.underlying57 rfl rfl rfl rfl (by kernel_rfl) H (.succ .zero) (Nat.le_of_ble_eq_true rfl) rfl ?_ | refine WL_store (v := .int .u64 _) Try.underlying57 rfl rfl rfl rfl (by kernel_rfl) H (.succ (.succ .zero)) (Nat.le_of_ble_eq_true rfl) rfl ?_ | refine WL_store (v := .int .u64 _) Try.underlying57 rfl rfl rfl rfl (by kernel_rfl) H (.succ (.succ (.succ .zero))) (Nat.le_of_ble_eq_true rfl) rfl ?_ | refine WL_store (v := .int .u64 _) Try.underlying57 rfl rfl rfl rfl (by kernel_rfl) H (.succ (.succ (.succ (.succ .zero)))) (Nat.le_of_ble_eq_true rfl) rfl ?_
    clear H; intro w H
    try simp only [List.set_cons_succ, List.set_cons_zero] at H
    refine WL_nil ?_
    refine thenE_normal ?_
    refine WC_seq ?_
    refine WC_region ?_
    refine WL_x (x_move (v := .int .i64 _) rfl) ?_
    refine WL_call (vs := [.int .i64 _]) Try.func29 rfl rfl rfl (nextPow_i32 _ _ (by omega)) ?_
    rintro _ w ⟨p, rfl, hp1, hp2, hf⟩
    refine ⟨_, rfl, ?_⟩
    replace H := H.quiet hf
    refine WL_x (x_assign (v := .int .u64 _) rfl) ?_
    refine WL_nil ?_
    refine thenE_normal ?_
    refine WC_seq ?_
    refine WC_region ?_
    refine WL_x (x_move (v := .int .i64 _) rfl) ?_
    refine WL_x (x_move (v := .int .i64 _) rfl) ?_
    refine WL_x (x_binop rfl rfl (r_quo_nat (by omega) (by omega) (i64_in (by omega) (by omega)))) ?_
    refine WL_x (x_binop rfl rfl (r_mul_in (i64_in (by omega) (by omega)))) ?_
    refine WL_x (x_binop rfl rfl (r_add_in (i64_in (by omega) (by omega)))) ?_
    refine WL_x (x_binop rfl rfl (r_sub_in (i64_in (by omega) (by omega)))) ?_
    refine WL_x (x_assign (v := .int .i64 _) rfl) ?_
    refine WL_nil ?_
    refine thenE_normal ?_
    refine WC_block ?_
    refine WC_while (fun (s : Nat × Int × Array Int) f w' => a + (b - a) / 4 * 2 - 1 ≤ s.1 ∧ s.1 ≤ a + (b - a) / 4 * 2 + 2 ∧ s.2.2.toList.length = n ∧ Go.Sort.PermIn a b d s.2.2 ∧ f 9 = .int .i64 s.1 ∧ f 8 = .int .u64 p ∧ f 7 = .pointer (some ⟨b7, 0, none⟩) ∧ f 6 = .int .i64 ((b : Int) - a) ∧ f 1 = .int .i64 a ∧ f 0 = .slice A n c ∧ St W (row A c 21 1 n (nums .i32 d.toList)).fp [blk b7 [.int .u64 s.2.1] 57, row A c 21 1 n (nums .i32 s.2.2.toList)] [] w') (fun s => a + (b - a) / 4 * 2 + 3 - s.1) (s0 := (a + (b - a) / 4 * 2 - 1, IntKind.u64.wrap ((b : Int) - a), d)) ?_ ?_
    · exact ⟨Nat.le_refl _, by simp only; omega, hM, Go.Sort.permIn_refl _ _ _, (congrArg (Value.int .i64) (by first | omega | rfl | (simp only; omega))), rfl, rfl, rfl, rfl, rfl, H⟩
    · clear H hM
      rintro ⟨idx, r, M⟩ f w ⟨hi, hi2, hM, hP, h9, h8, h7, h6, h1, h0, H⟩
      simp only at hi hi2 hM hP h9 h8 h7 h6 h1 h0 H
      rw [← upd_self h9, ← upd_self h8, ← upd_self h7, ← upd_self h6, ← upd_self h1, ← upd_self h0]
      have hs := size_of hM
      refine WC_seq ?_
      refine WC_seq ?_
      refine WC_region ?_
      refine WL_x (x_move (v := .int .i64 _) rfl) ?_
      refine WL_x (x_move (v := .int .i64 _) rfl) ?_
      refine WL_x (x_move (v := .int .i64 _) rfl) ?_
      refine WL_x (x_binop rfl rfl (r_quo_nat (by omega) (by omega) (i64_in (by omega) (by omega)))) ?_
      refine WL_x (x_binop rfl rfl (r_mul_in (i64_in (by omega) (by omega)))) ?_
      refine WL_x (x_binop rfl rfl (r_add_in (i64_in (by omega) (by omega)))) ?_
      refine WL_x (x_binop rfl rfl (r_add_in (i64_in (by omega) (by omega)))) ?_
      refine WL_x (x_binop rfl rfl (r_leq _ _ _ _)) ?_
      refine WL_nil ?_
      refine thenE_normal ?_
      first | refine WC_ifd rfl (fun h33 => ?_) (fun h33 => ?_) | refine WC_ifn rfl (fun h33 => ?_) (fun h33 => ?_) | refine WC_if rfl (fun h33 => ?_) (fun h33 => ?_)
      · refine WC_skip ?_
        refine thenE_normal ?_
        refine WC_seq ?_
        refine WC_block ?_
        refine WC_seq ?_
        refine WC_region ?_
        refine WL_call (vs := [.pointer (some _)]) Try.func30 rfl rfl rfl (xnext_i32 _ b7 r (H.ok _ List.mem_cons_self)) ?_
        rintro _ w ⟨q, rfl, hf, hok⟩
        refine ⟨_, rfl, ?_⟩
        replace H := H.turn .zero hf (fun _ h => .inl h) hok (fun _ h => .inl h)
        have hb := bits_and_u64 (x := q) (y := p - 1) (by omega) (by omega)
        refine WL_x (x_move (v := .int .u64 _) rfl) ?_
        refine WL_x (x_binop rfl rfl (r_sub_in (u64_in (by omega) (by omega)))) ?_
        refine WL_x (x_binop rfl rfl (r_and _ _ _ _)) ?_
        refine WL_x (x_convert Try.underlying43 Try.underlying3 rfl (i64_in (by omega) (by omega))) ?_
        refine WL_x (x_assign (v := .int .i64 _) rfl) ?_
        refine WL_nil ?_
        refine thenE_normal ?_
        refine WC_cut (fun (o : Nat) f w' => o < b - a ∧ f 10 = .int .i64 o ∧ f 9 = .int .i64 idx ∧ f 8 = .int .u64 p ∧ f 7 = .pointer (some ⟨b7, 0, none⟩) ∧ f 6 = .int .i64 ((b : Int) - a) ∧ f 1 = .int .i64 a ∧ f 0 = .slice A n c ∧ St W (row A c 21 1 n (nums .i32 d.toList)).fp [blk b7 [.int .u64 q] 57, row A c 21 1 n (nums .i32 M.toList)] [] w') ?_ ?_
        · refine WC_seq ?_
          refine WC_region ?_
          refine WL_x (x_move (v := .int .i64 _) rfl) ?_
          refine WL_x (x_move (v := .int .i64 _) rfl) ?_
          refine WL_x (x_binop rfl rfl (r_geq _ _ _ _)) ?_
          refine WL_nil ?_
          refine thenE_normal ?_
          first | refine WC_ifd rfl (fun h43 => ?_) (fun h43 => ?_) | refine WC_ifn rfl (fun h43 => ?_) (fun h43 => ?_) | refine WC_if rfl (fun h43 => ?_) (fun h43 => ?_)
          · refine WC_region ?_
            refine WL_x (x_move (v := .int .i64 _) rfl) ?_
            refine WL_x (x_move (v := .int .i64 _) rfl) ?_
            refine WL_x (x_binop rfl rfl (r_sub_in (i64_in (by omega) (by omega)))) ?_
            refine WL_x (x_assign (v := .int .i64 _) rfl) ?_
            refine WL_nil ?_
            refine thenE_normal ?_
            first
              | exact ⟨(bits .and .u64 q (p - 1) - ((b : Int) - a)).toNat, by omega, (congrArg (Value.int .i64) (by first | omega | rfl | (simp only; omega))), rfl, rfl, rfl, rfl, rfl, rfl, H⟩
              | exact ⟨(bits .and .u64 q (p - 1)).toNat, by omega, (congrArg (Value.int .i64) (by first | omega | rfl | (simp only; omega))), rfl, rfl, rfl, rfl, rfl, rfl, H⟩
          · refine WC_skip ?_
            refine thenE_normal ?_
            first
              | exact ⟨(bits .and .u64 q (p - 1) - ((b : Int) - a)).toNat, by omega, (congrArg (Value.int .i64) (by first | omega | rfl | (simp only; omega))), rfl, rfl, rfl, rfl, rfl, rfl, H⟩
              | exact ⟨(bits .and .u64 q (p - 1)).toNat, by omega, (congrArg (Value.int .i64) (by first | omega | rfl | (simp only; omega))), rfl, rfl, rfl, rfl, rfl, rfl, H⟩
        · clear H
          rintro o f w ⟨ho, h10, h9, h8, h7, h6, h1, h0, H⟩
          rw [← upd_self h10, ← upd_self h9, ← upd_self h8, ← upd_self h7, ← upd_self h6, ← upd_self h1, ← upd_self h0]
          refine WC_drawT (m := 20) (listed := [false, false, false, false, false, false, false, false, false, false, false, false, false, false, false, false, false, false, false, false]) (by kernel_rfl) rfl rfl H ?_
          intro w H
          refine WG_take (i := 2) (listed' := [false, false, true, false, false, false, false, false, false, false, false, false, false, false, false, false, false, false, false, false]) rfl (by kernel_rfl) (fun w _ => x_move (v := .slice _ _ _) rfl) trivial rfl ?_
          refine WG_take (i := 3) (listed' := [false, false, true, true, false, false, false, false, false, false, false, false, false, false, false, false, false, false, false, false]) rfl (by kernel_rfl) (fun w _ => x_move (v := .int .i64 _) rfl) trivial rfl ?_
          refine WG_take (i := 4) (listed' := [false, false, true, true, true, false, false, false, false, false, false, false, false, false, false, false, false, false, false, false]) rfl (by kernel_rfl) (fun w _ => x_move (v := .int .i64 _) rfl) trivial rfl ?_
          refine WG_take (i := 5) (listed' := [false, false, true, true, true, true, false, false, false, false, false, false, false, false, false, false, false, false, false, false]) rfl (by kernel_rfl) (fun w _ => x_binop rfl rfl (r_add_in (i64_in (by omega) (by omega)))) trivial rfl ?_
          refine WG_true (S := fun w => St W (row A c 21 1 n (nums .i32 d.toList)).fp [blk b7 [.int .u64 q] 57, row A c 21 1 n (nums .i32 M.toList)] [] w) (n := 17) rfl ?_
          refine WG_take (i := 0) (listed' := [true, false, true, true, true, true, false, false, false, false, false, false, false, false, false, false, false, false, false, false]) rfl (by kernel_rfl) (fun w H => x_move (v := .slice _ _ _) rfl) H rfl ?_
          refine WG_take (i := 1) (listed' := [true, true, true, true, true, true, false, false, false, false, false, false, false, false, false, false, false, false, false, false]) rfl (by kernel_rfl) (fun w H => x_move (v := .int .i64 _) rfl) H rfl ?_
          refine WG_take (i := 6) (listed' := [true, true, true, true, true, true, true, false, false, false, false, false, false, false, false, false, false, false, false, false]) rfl (by kernel_rfl) (fun w H => x_move (v := .slice _ _ _) rfl) H rfl ?_
          refine WG_take (i := 7) (listed' := [true, true, true, true, true, true, true, true, false, false, false, false, false, false, false, false, false, false, false, false]) rfl (by kernel_rfl) (fun w H => x_move (v := .int .i64 _) rfl) H rfl ?_
          refine WG_take (i := 8) (listed' := [true, true, true, true, true, true, true, true, true, false, false, false, false, false, false, false, false, false, false, false]) rfl (by kernel_rfl) (fun w H => x_move (v := .int .i64 _) rfl) H rfl ?_
          refine WG_take (i := 9) (listed' := [true, true, true, true, true, true, true, true, true, true, false, false, false, false, false, false, false, false, false, false]) rfl (by kernel_rfl) (fun w H => x_binop rfl rfl (r_add_in (i64_in (by omega) (by omega)))) H rfl ?_
          refine WG_take (i := 10) (listed' := [true, true, true, true, true, true, true, true, true, true, true, false, false, false, false, false, false, false, false, false]) rfl (by kernel_rfl) (fun w H => x_indexAddr (s := 1) Try.underlying23 (by kernel_rfl) rfl rfl (by omega) (by omega) (by first | rfl | assumption | exact H.rsomen .zero (by omega) | exact H.rsomen (.succ .zero) (by omega) | exact H.rsomen (.succ (.succ .zero)) (by omega) | exact H.osomen .zero (by omega) | exact H.osomen (.succ .zero) (by omega) | exact H.osomen (.succ (.succ .zero)) (by omega)) rfl) H rfl ?_
          first | refine WG_take (i := 11) (listed' := [true, true, true, true, true, true, true, true, true, true, true, true, false, false, false, false, false, false, false, false]) rfl (by kernel_rfl) (fun w H => x_load (v := .int .i32 _) Try.underlying21 rfl rfl (H.cellAt .zero rfl)) H rfl ?_ | refine WG_take (i := 11) (listed' := [true, true, true, true, true, true, true, true, true, true, true, true, false, false, false, false, false, false, false, false]) rfl (by kernel_rfl) (fun w H => x_load (v := .int .i32 _) Try.underlying21 rfl rfl (H.cellAt (.succ .zero) rfl)) H rfl ?_ | refine WG_take (i := 11) (listed' := [true, true, true, true, true, true, true, true, true, true, true, true, false, false, false, false, false, false, false, false]) rfl (by kernel_rfl) (fun w H => x_load (v := .int .i32 _) Try.underlying21 rfl rfl (H.cellAt (.succ (.succ .zero)) rfl)) H rfl ?_ | refine WG_take (i := 11) (listed' := [true, true, true, true, true, true, true, true, true, true, true, true, false, false, false, false, false, false, false, false]) rfl (by kernel_rfl) (fun w H => x_load (v := .int .i32 _) Try.underlying21 rfl rfl (H.cellAt (.succ (.succ (.succ .zero))) rfl)) H rfl ?_ | refine WG_take (i := 11) (listed' := [true, true, true, true, true, true, true, true, true, true, true, true, false, false, false, false, false, false, false, false]) rfl (by kernel_rfl) (fun w H => x_load (v := .int .i32 _) Try.underlying21 rfl rfl (H.cellAt (.succ (.succ (.succ (.succ .zero)))) rfl)) H rfl ?_ | refine WG_take (i := 11) (listed' := [true, true, true, true, true, true, true, true, true, true, true, true, false, false, false, false, false, false, false, false]) rfl (by kernel_rfl) (fun w H => x_load Try.underlying21 rfl rfl (H.rnum .zero (by omega) (by omega))) H rfl ?_ | refine WG_take (i := 11) (listed' := [true, true, true, true, true, true, true, true, true, true, true, true, false, false, false, false, false, false, false, false]) rfl (by kernel_rfl) (fun w H => x_load Try.underlying21 rfl rfl (H.rnum (.succ .zero) (by omega) (by omega))) H rfl ?_ | refine WG_take (i := 11) (listed' := [true, true, true, true, true, true, true, true, true, true, true, true, false, false, false, false, false, false, false, false]) rfl (by kernel_rfl) (fun w H => x_load Try.underlying21 rfl rfl (H.rnum (.succ (.succ .zero)) (by omega) (by omega))) H rfl ?_ | refine WG_take (i := 11) (listed' := [true, true, true, true, true, true, true, true, true, true, true, true, false, false, false, false, false, false, false, false]) rfl (by kernel_rfl) (fun w H => x_load Try.underlying21 rfl rfl (H.onum .zero (by omega) (by omega))) H rfl ?_ | refine WG_take (i := 11) (listed' := [true, true, true, true, true, true, true, true, true, true, true, true, false, false, false, false, false, false, false, false]) rfl (by kernel_rfl) (fun w H => x_load Try.underlying21 rfl rfl (H.onum (.succ .zero) (by omega) (by omega))) H rfl ?_ | refine WG_take (i := 11) (listed' := [true, true, true, true, true, true, true, true, true, true, true, true, false, false, false, false, false, false, false, false]) rfl (by kernel_rfl) (fun w H => x_load Try.underlying21 rfl rfl (H.onum (.succ (.succ .zero)) (by omega) (by omega))) H rfl ?_
          refine WG_take (i := 12) (listed' := [true, true, true, true, true, true, true, true, true, true, true, true, true, false, false, false, false, false, false, false]) rfl (by kernel_rfl) (fun w H => x_move (v := .slice _ _ _) rfl) H rfl ?_
          refine WG_take (i := 13) (listed' := [true, true, true, true, true, true, true, true, true, true, true, true, true, true, false, false, false, false, false, false]) rfl (by kernel_rfl) (fun w H => x_move (v := .int .i64 _) rfl) H rfl ?_
          refine WG_take (i := 14) (listed' := [true, true, true, true, true, true, true, true, true, true, true, true, true, true, true, false, false, false, false, false]) rfl (by kernel_rfl) (fun w H => x_indexAddr (s := 1) Try.underlying23 (by kernel_rfl) rfl rfl (by omega) (by omega) (by first | rfl | assumption | exact H.rsomen .zero (by omega) | exact H.rsomen (.succ .zero) (by omega) | exact H.rsomen (.succ (.succ .zero)) (by omega) | exact H.osomen .zero (by omega) | exact H.osomen (.succ .zero) (by omega) | exact H.osomen (.succ (.succ .zero)) (by omega)) rfl) H rfl ?_
          first | refine WG_take (i := 15) (listed' := [true, true, true, true, true, true, true, true, true, true, true, true, true, true, true, true, false, false, false, false]) rfl (by kernel_rfl) (fun w H => x_load (v := .int .i32 _) Try.underlying21 rfl rfl (H.cellAt .zero rfl)) H rfl ?_ | refine WG_take (i := 15) (listed' := [true, true, true, true, true, true, true, true, true, true, true, true, true, true, true, true, false, false, false, false]) rfl (by kernel_rfl) (fun w H => x_load (v := .int .i32 _) Try.underlying21 rfl rfl (H.cellAt (.succ .zero) rfl)) H rfl ?_ | refine WG_take (i := 15) (listed' := [true, true, true, true, true, true, true, true, true, true, true, true, true, true, true, true, false, false, false, false]) rfl (by kernel_rfl) (fun w H => x_load (v := .int .i32 _) Try.underlying21 rfl rfl (H.cellAt (.succ (.succ .zero)) rfl)) H rfl ?_ | refine WG_take (i := 15) (listed' := [true, true, true, true, true, true, true, true, true, true, true, true, true, true, true, true, false, false, false, false]) rfl (by kernel_rfl) (fun w H => x_load (v := .int .i32 _) Try.underlying21 rfl rfl (H.cellAt (.succ (.succ (.succ .zero))) rfl)) H rfl ?_ | refine WG_take (i := 15) (listed' := [true, true, true, true, true, true, true, true, true, true, true, true, true, true, true, true, false, false, false, false]) rfl (by kernel_rfl) (fun w H => x_load (v := .int .i32 _) Try.underlying21 rfl rfl (H.cellAt (.succ (.succ (.succ (.succ .zero)))) rfl)) H rfl ?_ | refine WG_take (i := 15) (listed' := [true, true, true, true, true, true, true, true, true, true, true, true, true, true, true, true, false, false, false, false]) rfl (by kernel_rfl) (fun w H => x_load Try.underlying21 rfl rfl (H.rnum .zero (by omega) (by omega))) H rfl ?_ | refine WG_take (i := 15) (listed' := [true, true, true, true, true, true, true, true, true, true, true, true, true, true, true, true, false, false, false, false]) rfl (by kernel_rfl) (fun w H => x_load Try.underlying21 rfl rfl (H.rnum (.succ .zero) (by omega) (by omega))) H rfl ?_ | refine WG_take (i := 15) (listed' := [true, true, true, true, true, true, true, true, true, true, true, true, true, true, true, true, false, false, false, false]) rfl (by kernel_rfl) (fun w H => x_load Try.underlying21 rfl rfl (H.rnum (.succ (.succ .zero)) (by omega) (by omega))) H rfl ?_ | refine WG_take (i := 15) (listed' := [true, true, true, true, true, true, true, true, true, true, true, true, true, true, true, true, false, false, false, false]) rfl (by kernel_rfl) (fun w H => x_load Try.underlying21 rfl rfl (H.onum .zero (by omega) (by omega))) H rfl ?_ | refine WG_take (i := 15) (listed' := [true, true, true, true, true, true, true, true, true, true, true, true, true, true, true, true, false, false, false, false]) rfl (by kernel_rfl) (fun w H => x_load Try.underlying21 rfl rfl (H.onum (.succ .zero) (by omega) (by omega))) H rfl ?_ | refine WG_take (i := 15) (listed' := [true, true, true, true, true, true, true, true, true, true, true, true, true, true, true, true, false, false, false, false]) rfl (by kernel_rfl) (fun w H => x_load Try.underlying21 rfl rfl (H.onum (.succ (.succ .zero)) (by omega) (by omega))) H rfl ?_
          refine WG_take (i := 16) (listed' := [true, true, true, true, true, true, true, true, true, true, true, true, true, true, true, true, true, false, false, false]) rfl (by kernel_rfl) (fun w H => x_indexAddr (s := 1) Try.underlying23 (by kernel_rfl) rfl rfl (by omega) (by omega) (by first | rfl | assumption | exact H.rsomen .zero (by omega) | exact H.rsomen (.succ .zero) (by omega) | exact H.rsomen (.succ (.succ .zero)) (by omega) | exact H.osomen .zero (by omega) | exact H.osomen (.succ .zero) (by omega) | exact H.osomen (.succ (.succ .zero)) (by omega)) rfl) H rfl ?_
          refine WG_next (fun w => St W (row A c 21 1 n (nums .i32 d.toList)).fp [blk b7 [.int .u64 q] 57, row A c 21 1 n (nums .i32 (M.setIfInBounds idx M[(a + o)]!).toList)] [] w) 19 (listed' := [true, true, true, true, true, true, true, true, true, true, true, true, true, true, true, true, true, true, false, false]) rfl rfl (by kernel_rfl) rfl ?_
          refine WL_storeR (v := .int .i32 _) (o := idx) (n := n) (xs := nums .i32 M.toList) (xs' := nums .i32 (M.setIfInBounds idx M[(a + o)]!).toList) Try.underlying21 rfl rfl rfl rfl (by kernel_rfl) (by omega) H (.succ .zero) (by rw [nums_length]; omega) (nums_setA _ _ _ (nth_at (by omega))) ?_
          clear H; intro w H
          refine WL_nil ?_
          refine nx_mk ?_
          refine WG_take (i := 18) (listed' := [true, true, true, true, true, true, true, true, true, true, true, true, true, true, true, true, true, true, true, false]) rfl (by kernel_rfl) (fun w H => x_indexAddr (s := 1) Try.underlying23 (by kernel_rfl) rfl rfl (by omega) (by omega) (H.osomen (.succ .zero) (by rw [len_setA]; omega)) rfl) H rfl ?_
          refine WG_fin (listed' := [true, true, true, true, true, true, true, true, true, true, true, true, true, true, true, true, true, true, true, true]) rfl rfl (by kernel_rfl) rfl (by kernel_rfl) ?_
          refine WL_storeR (v := .int .i32 _) (o := (a + o)) (n := n) (xs := nums .i32 (M.setIfInBounds idx M[(a + o)]!).toList) (xs' := nums .i32 (Go.Sort.swp M idx (a + o)).toList) Try.underlying21 rfl rfl rfl rfl (by kernel_rfl) (by omega) H (.succ .zero) (by rw [nums_length, len_setA]; omega) (nums_setA _ _ _ (nth_at (by omega))) ?_
          clear H; intro w H
          have hM2 : (Go.Sort.swp M idx (a + o)).toList.length = n := by rw [len_swp]; exact hM
          refine WL_nil ?_
          refine fin_mk ?_
          refine inBlockE_normal ?_
          refine thenE_normal ?_
          refine WC_region ?_
          refine WL_x (x_move (v := .int .i64 _) rfl) ?_
          refine WL_x (x_binop rfl rfl (r_add_in (i64_in (by omega) (by omega)))) ?_
          refine WL_x (x_assign (v := .int .i64 _) rfl) ?_
          refine WL_nil ?_
          refine thenE_normal ?_
          exact ⟨(idx + 1, q, Go.Sort.swp M idx (a + o)), ⟨by simp only; omega, by simp only; omega, hM2, Go.Sort.permIn_trans _ _ _ _ _ hP (Go.Sort.swp_permIn M a b idx (a + o) (by omega) (by omega) (by omega) (by omega) (by omega)), (congrArg (Value.int .i64) (by first | omega | rfl | (simp only; omega))), rfl, rfl, rfl, rfl, rfl, H⟩, by simp only; omega⟩
      · refine WC_exit ?_
        refine thenE_exit ?_
        refine thenE_exit ?_
        refine inBlockE_exit ?_
        refine endn0 Try.results19 ?_
        first
          | exact ⟨M, rfl, H.fr, hM, hP, H.ok _ (by simp)⟩
          | exact ⟨d, rfl, H.fr, hM, hP, H.ok _ (by simp)⟩
  · have hP : Go.Sort.PermIn a b d d := Go.Sort.permIn_refl _ _ _
    refine WC_skip ?_
    refine endn0 Try.results19 ?_
    first
      | exact ⟨M, rfl, H.fr, hM, hP, H.ok _ (by simp)⟩
      | exact ⟨d, rfl, H.fr, hM, hP, H.ok _ (by simp)⟩

theorem order2_i32 (W : World) (d : Array Int) (A : Option Addr) (c n s : Nat) (q : Int) (hx : Cells W A (nums .i32 d.toList)) (hs : (blk s [.int .i64 q] 3).ok W) (hd : ∀ b, b ∈ (blk s [.int .i64 q] 3).fp → b ∉ (Go.HW.cells A (nums .i32 d.toList)).fp) (hM : d.toList.length = n) (hsz : n ≤ 2305843009213693952) (x y : Int) (h1 : 0 ≤ x ∧ x < n) (h2 : 0 ≤ y ∧ y < n) :
    Calls Try.prog 34 #[.slice A n c, .int .i64 x, .int .i64 y, .pointer (some ⟨s, 0, none⟩)] W fun e w' => ∃ x' y' q', e = .returned (.tuple #[.int .i64 x', .int .i64 y']) ∧ ((x' = x ∧ y' = y) ∨ (x' = y ∧ y' = x)) ∧ Fr [s] W w' ∧ (blk s [.int .i64 q'] 3).ok w' := by
  have H : St W [s] [blk s [.int .i64 q] 3] [Go.HW.cells A (nums .i32 d.toList)] W := St.oneRo hs (by simp; exact cells_ok hx) (by simp only [List.mem_singleton, forall_eq]; exact hd)
  refine calls_enter (N := 28) Try.func34 rfl Try.ntmps34 rfl ?_
  refine WC_seq ?_
  refine WC_region ?_
  refine WL_x (x_assign (v := (.int .i64 0)) rfl) ?_
  refine WL_x (x_assign (v := (.int .i64 0)) rfl) ?_
  refine WL_nil ?_
  refine thenE_normal ?_
  refine WC_seq ?_
  refine WC_seq ?_
  refine WC_drawH (m := 9) (listed := [false, false, false, false, false, false, false, false, false]) 8 (by kernel_rfl) rfl rfl H ?_
  intro w H
  refine WG_take (i := 0) (listed' := [true, false, false, false, false, false, false, false, false]) rfl (by kernel_rfl) (fun w H => x_move (v := .slice _ _ _) rfl) H rfl ?_
  refine WG_take (i := 1) (listed' := [true, true, false, false, false, false, false, false, false]) rfl (by kernel_rfl) (fun w H => x_move (v := .int .i64 _) rfl) H rfl ?_
  refine WG_take (i := 2) (listed' := [true, true, true, false, false, false, false, false, false]) rfl (by kernel_rfl) (fun w H => x_indexAddr (s := 1) Try.underlying23 (by kernel_rfl) rfl rfl (by omega) (by omega) (by first | rfl | assumption | exact H.rsomen .zero (by omega) | exact H.rsomen (.succ .zero) (by omega) | exact H.rsomen (.succ (.succ .zero)) (by omega) | exact H.osomen .zero (by omega) | exact H.osomen (.succ .zero) (by omega) | exact H.osomen (.succ (.succ .zero)) (by omega)) rfl) H rfl ?_
  first | refine WG_take (i := 3) (listed' := [true, true, true, true, false, false, false, false, false]) rfl (by kernel_rfl) (fun w H => x_load (v := .int .i32 _) Try.underlying21 rfl rfl (H.cellAt .zero rfl)) H rfl ?_ | refine WG_take (i := 3) (listed' := [true, true, true, true, false, false, false, false, false]) rfl (by kernel_rfl) (fun w H => x_load (v := .int .i32 _) Try.underlying21 rfl rfl (H.cellAt (.succ .zero) rfl)) H rfl ?_ | refine WG_take (i := 3) (listed' := [true, true, true, true, false, false, false, false, false]) rfl (by kernel_rfl) (fun w H => x_load (v := .int .i32 _) Try.underlying21 rfl rfl (H.cellAt (.succ (.succ .zero)) rfl)) H rfl ?_ | refine WG_take (i := 3) (listed' := [true, true, true, true, false, false, false, false, false]) rfl (by kernel_rfl) (fun w H => x_load (v := .int .i32 _) Try.underlying21 rfl rfl (H.cellAt (.succ (.succ (.succ .zero))) rfl)) H rfl ?_ | refine WG_take (i := 3) (listed' := [true, true, true, true, false, false, false, false, false]) rfl (by kernel_rfl) (fun w H => x_load (v := .int .i32 _) Try.underlying21 rfl rfl (H.cellAt (.succ (.succ (.succ (.succ .zero)))) rfl)) H rfl ?_ | refine WG_take (i := 3) (listed' := [true, true, true, true, false, false, false, false, false]) rfl (by kernel_rfl) (fun w H => x_load Try.underlying21 rfl rfl (H.rnum .zero (by omega) (by omega))) H rfl ?_ | refine WG_take (i := 3) (listed' := [true, true, true, true, false, false, false, false, false]) rfl (by kernel_rfl) (fun w H => x_load Try.underlying21 rfl rfl (H.rnum (.succ .zero) (by omega) (by omega))) H rfl ?_ | refine WG_take (i := 3) (listed' := [true, true, true, true, false, false, false, false, false]) rfl (by kernel_rfl) (fun w H => x_load Try.underlying21 rfl rfl (H.rnum (.succ (.succ .zero)) (by omega) (by omega))) H rfl ?_ | refine WG_take (i := 3) (listed' := [true, true, true, true, false, false, false, false, false]) rfl (by kernel_rfl) (fun w H => x_load Try.underlying21 rfl rfl (H.onum .zero (by omega) (by omega))) H rfl ?_ | refine WG_take (i := 3) (listed' := [true, true, true, true, false, false, false, false, false]) rfl (by kernel_rfl) (fun w H => x_load Try.underlying21 rfl rfl (H.onum (.succ .zero) (by omega) (by omega))) H rfl ?_ | refine WG_take (i := 3) (listed' := [true, true, true, true, false, false, false, false, false]) rfl (by kernel_rfl) (fun w H => x_load Try.underlying21 rfl rfl (H.onum (.succ (.succ .zero)) (by omega) (by omega))) H rfl ?_
  refine WG_take (i := 4) (listed' := [true, true, true, true, true, false, false, false, false]) rfl (by kernel_rfl) (fun w H => x_move (v := .slice _ _ _) rfl) H rfl ?_
  refine WG_take (i := 5) (listed' := [true, true, true, true, true, true, false, false, false]) rfl (by kernel_rfl) (fun w H => x_move (v := .int .i64 _) rfl) H rfl ?_
  refine WG_take (i := 6) (listed' := [true, true, true, true, true, true, true, false, false]) rfl (by kernel_rfl) (fun w H => x_indexAddr (s := 1) Try.underlying23 (by kernel_rfl) rfl rfl (by omega) (by omega) (by first | rfl | assumption | exact H.rsomen .zero (by omega) | exact H.rsomen (.succ .zero) (by omega) | exact H.rsomen (.succ (.succ .zero)) (by omega) | exact H.osomen .zero (by omega) | exact H.osomen (.succ .zero) (by omega) | exact H.osomen (.succ (.succ .zero)) (by omega)) rfl) H rfl ?_
  first | refine WG_take (i := 7) (listed' := [true, true, true, true, true, true, true, true, false]) rfl (by kernel_rfl) (fun w H => x_load (v := .int .i32 _) Try.underlying21 rfl rfl (H.cellAt .zero rfl)) H rfl ?_ | refine WG_take (i := 7) (listed' := [true, true, true, true, true, true, true, true, false]) rfl (by kernel_rfl) (fun w H => x_load (v := .int .i32 _) Try.underlying21 rfl rfl (H.cellAt (.succ .zero) rfl)) H rfl ?_ | refine WG_take (i := 7) (listed' := [true, true, true, true, true, true, true, true, false]) rfl (by kernel_rfl) (fun w H => x_load (v := .int .i32 _) Try.underlying21 rfl rfl (H.cellAt (.succ (.succ .zero)) rfl)) H rfl ?_ | refine WG_take (i := 7) (listed' := [true, true, true, true, true, true, true, true, false]) rfl (by kernel_rfl) (fun w H => x_load (v := .int .i32 _) Try.underlying21 rfl rfl (H.cellAt (.succ (.succ (.succ .zero))) rfl)) H rfl ?_ | refine WG_take (i := 7) (listed' := [true, true, true, true, true, true, true, true, false]) rfl (by kernel_rfl) (fun w H => x_load (v := .int .i32 _) Try.underlying21 rfl rfl (H.cellAt (.succ (.succ (.succ (.succ .zero)))) rfl)) H rfl ?_ | refine WG_take (i := 7) (listed' := [true, true, true, true, true, true, true, true, false]) rfl (by kernel_rfl) (fun w H => x_load Try.underlying21 rfl rfl (H.rnum .zero (by omega) (by omega))) H rfl ?_ | refine WG_take (i := 7) (listed' := [true, true, true, true, true, true, true, true, false]) rfl (by kernel_rfl) (fun w H => x_load Try.underlying21 rfl rfl (H.rnum (.succ .zero) (by omega) (by omega))) H rfl ?_ | refine WG_take (i := 7) (listed' := [true, true, true, true, true, true, true, true, false]) rfl (by kernel_rfl) (fun w H => x_load Try.underlying21 rfl rfl (H.rnum (.succ (.succ .zero)) (by omega) (by omega))) H rfl ?_ | refine WG_take (i := 7) (listed' := [true, true, true, true, true, true, true, true, false]) rfl (by kernel_rfl) (fun w H => x_load Try.underlying21 rfl rfl (H.onum .zero (by omega) (by omega))) H rfl ?_ | refine WG_take (i := 7) (listed' := [true, true, true, true, true, true, true, true, false]) rfl (by kernel_rfl) (fun w H => x_load Try.underlying21 rfl rfl (H.onum (.succ .zero) (by omega) (by omega))) H rfl ?_ | refine WG_take (i := 7) (listed' := [true, true, true, true, true, true, true, true, false]) rfl (by kernel_rfl) (fun w H => x_load Try.underlying21 rfl rfl (H.onum (.succ (.succ .zero)) (by omega) (by omega))) H rfl ?_
  refine WG_fin (listed' := [true, true, true, true, true, true, true, true, true]) rfl rfl (by kernel_rfl) rfl (by kernel_rfl) ?_
  refine WL_call (vs := [.int .i32 _, .int .i32 _]) Try.func23 rfl rfl rfl (less_i32 _ _ _) ?_
  rintro _ w ⟨rfl, hf⟩
  refine ⟨_, rfl, ?_⟩
  replace H := H.quiet hf
  refine WL_nil ?_
  refine fin_mk ?_
  refine thenE_normal ?_
  refine WC_ifd rfl (fun h18 => ?_) (fun h18 => ?_)
  · refine WC_seq ?_
    refine WC_region ?_
    refine WL_x (x_move (v := .pointer _) rfl) ?_
    refine WL_x (x_nilCheck rfl) ?_
    first | refine WL_x (x_load (v := .int .i64 _) Try.underlying3 rfl rfl (H.cellAt .zero rfl)) ?_ | refine WL_x (x_load (v := .int .i64 _) Try.underlying3 rfl rfl (H.cellAt (.succ .zero) rfl)) ?_ | refine WL_x (x_load (v := .int .i64 _) Try.underlying3 rfl rfl (H.cellAt (.succ (.succ .zero)) rfl)) ?_ | refine WL_x (x_load (v := .int .i64 _) Try.underlying3 rfl rfl (H.cellAt (.succ (.succ (.succ .zero))) rfl)) ?_ | refine WL_x (x_load (v := .int .i64 _) Try.underlying3 rfl rfl (H.cellAt (.succ (.succ (.succ (.succ .zero)))) rfl)) ?_ | refine WL_x (x_load Try.underlying3 rfl rfl (H.rnum .zero (by omega) (by omega))) ?_ | refine WL_x (x_load Try.underlying3 rfl rfl (H.rnum (.succ .zero) (by omega) (by omega))) ?_ | refine WL_x (x_load Try.underlying3 rfl rfl (H.rnum (.succ (.succ .zero)) (by omega) (by omega))) ?_ | refine WL_x (x_load Try.underlying3 rfl rfl (H.onum .zero (by omega) (by omega))) ?_ | refine WL_x (x_load Try.underlying3 rfl rfl (H.onum (.succ .zero) (by omega) (by omega))) ?_ | refine WL_x (x_load Try.underlying3 rfl rfl (H.onum (.succ (.succ .zero)) (by omega) (by omega))) ?_
    refine WL_x (x_binop rfl rfl (r_add _ _ _ _)) ?_
    refine WL_x (x_nilCheck rfl) ?_
    first | refine WL_store (v := .int .i64 _) Try.underlying3 rfl rfl rfl rfl (by kernel_rfl) H .zero (Nat.le_of_ble_eq_true rfl) rfl ?_ | refine WL_store (v := .int .i64 _) Try.underlying3 rfl rfl rfl rfl (by kernel_rfl) H (.succ .zero) (Nat.le_of_ble_eq_true rfl) rfl ?_ | refine WL_store (v := .int .i64 _) Try.underlying3 rfl rfl rfl rfl (by kernel_rfl) H (.succ (.succ .zero)) (Nat.le_of_ble_eq_true rfl) rfl ?_ | refine WL_store (v := .int .i64 _) Try.underlying3 rfl rfl rfl rfl (by kernel_rfl) H (.succ (.succ (.succ .zero))) (Nat.le_of_ble_eq_true rfl) rfl ?_ | refine WL_store (v := .int .i64 _) Try.underlying3 rfl rfl rfl rfl (by kernel_rfl) H (.succ (.succ (.succ (.succ .zero)))) (Nat.le_of_ble_eq_true rfl) rfl ?_
    clear H; intro w H
    try simp only [List.set_cons_succ, List.set_cons_zero] at H
    refine WL_nil ?_
    refine thenE_normal ?_
    refine WC_seq ?_
    refine WC_region ?_
    refine WL_x (x_move (v := .int .i64 _) rfl) ?_
    refine WL_x (x_move (v := .int .i64 _) rfl) ?_
    refine WL_x (x_assign (v := .int .i64 _) rfl) ?_
    refine WL_x (x_assign (v := .int .i64 _) rfl) ?_
    refine WL_nil ?_
    refine thenE_normal ?_
    refine WC_ret ?_
    refine thenE_ret ?_
    refine ends2 (v1 := .int .i64 _) (v2 := .int .i64 _) Try.results34 rfl rfl ?_
    first
      | exact ⟨_, _, _, rfl, .inr ⟨rfl, rfl⟩, H.fr, H.ok _ List.mem_cons_self⟩
      | exact ⟨_, _, _, rfl, .inl ⟨rfl, rfl⟩, H.fr, H.ok _ List.mem_cons_self⟩
  · refine WC_skip ?_
    refine thenE_normal ?_
    refine WC_seq ?_
    refine WC_region ?_
    refine WL_x (x_move (v := .int .i64 _) rfl) ?_
    refine WL_x (x_move (v := .int .i64 _) rfl) ?_
    refine WL_x (x_assign (v := .int .i64 _) rfl) ?_
    refine WL_x (x_assign (v := .int .i64 _) rfl) ?_
    refine WL_nil ?_
    refine thenE_normal ?_
    refine WC_ret ?_
    refine ends2 (v1 := .int .i64 _) (v2 := .int .i64 _) Try.results34 rfl rfl ?_
    first
      | exact ⟨_, _, _, rfl, .inr ⟨rfl, rfl⟩, H.fr, H.ok _ List.mem_cons_self⟩
      | exact ⟨_, _, _, rfl, .inl ⟨rfl, rfl⟩, H.fr, H.ok _ List.mem_cons_self⟩

theorem median_i32 (W : World) (d : Array Int) (A : Option Addr) (c n s : Nat) (q : Int) (hx : Cells W A (nums .i32 d.toList)) (hs : (blk s [.int .i64 q] 3).ok W) (hd : ∀ b, b ∈ (blk s [.int .i64 q] 3).fp → b ∉ (Go.HW.cells A (nums .i32 d.toList)).fp) (hM : d.toList.length = n) (hsz : n ≤ 2305843009213693952) (x y z : Int) (h1 : 0 ≤ x ∧ x < n) (h2 : 0 ≤ y ∧ y < n) (h3 : 0 ≤ z ∧ z < n) :
    Calls Try.prog 32 #[.slice A n c, .int .i64 x, .int .i64 y, .int .i64 z, .pointer (some ⟨s, 0, none⟩)] W fun e w' => ∃ v q', e = .returned (.int .i64 v) ∧ (v = x ∨ v = y ∨ v = z) ∧ Fr [s] W w' ∧ (blk s [.int .i64 q'] 3).ok w' := by
  have H : St W [s] [blk s [.int .i64 q] 3] [Go.HW.cells A (nums .i32 d.toList)] W := St.oneRo hs (by simp; exact cells_ok hx) (by simp only [List.mem_singleton, forall_eq]; exact hd)
  refine calls_enter (N := 36) Try.func32 rfl Try.ntmps32 rfl ?_
  refine WC_seq ?_
  refine WC_region ?_
  refine WL_x (x_assign (v := (.int .i64 0)) rfl) ?_
  refine WL_nil ?_
  refine thenE_normal ?_
  refine WC_seq ?_
  refine WC_region ?_
  refine WL_x (x_move (v := .slice _ _ _) rfl) ?_
  refine WL_x (x_move (v := .int .i64 _) rfl) ?_
  refine WL_x (x_move (v := .int .i64 _) rfl) ?_
  refine WL_x (x_move (v := .pointer _) rfl) ?_
  refine WL_call (vs := [.slice _ _ _, .int .i64 _, .int .i64 _, .pointer _]) Try.func34 rfl rfl rfl (order2_i32 _ d A c n s _ (H.rcells .zero) (H.ok _ List.mem_cons_self) hd hM hsz _ _ (by omega) (by omega)) ?_
  rintro _ w ⟨x1, y1, q1, rfl, ho1, hf, hok⟩
  refine ⟨_, rfl, ?_⟩
  replace H := H.turn .zero hf (fun _ h => .inl h) hok (fun _ h => .inl h)
  refine WL_x (x_move (v := .tuple _) rfl) ?_
  refine WL_x (x_extract (v := .int .i64 _) rfl rfl) ?_
  refine WL_x (x_extract (v := .int .i64 _) rfl rfl) ?_
  refine WL_x (x_assign (v := .int .i64 _) rfl) ?_
  refine WL_x (x_assign (v := .int .i64 _) rfl) ?_
  refine WL_nil ?_
  refine thenE_normal ?_
  refine WC_seq ?_
  refine WC_region ?_
  refine WL_x (x_move (v := .slice _ _ _) rfl) ?_
  refine WL_x (x_move (v := .int .i64 _) rfl) ?_
  refine WL_x (x_move (v := .int .i64 _) rfl) ?_
  refine WL_x (x_move (v := .pointer _) rfl) ?_
  refine WL_call (vs := [.slice _ _ _, .int .i64 _, .int .i64 _, .pointer _]) Try.func34 rfl rfl rfl (order2_i32 _ d A c n s _ (H.rcells .zero) (H.ok _ List.mem_cons_self) hd hM hsz _ _ (by omega) (by omega)) ?_
  rintro _ w ⟨x2, y2, q2, rfl, ho2, hf, hok⟩
  refine ⟨_, rfl, ?_⟩
  replace H := H.turn .zero hf (fun _ h => .inl h) hok (fun _ h => .inl h)
  refine WL_x (x_move (v := .tuple _) rfl) ?_
  refine WL_x (x_extract (v := .int .i64 _) rfl rfl) ?_
  refine WL_x (x_extract (v := .int .i64 _) rfl rfl) ?_
  refine WL_x (x_assign (v := .int .i64 _) rfl) ?_
  refine WL_x (x_assign (v := .int .i64 _) rfl) ?_
  refine WL_nil ?_
  refine thenE_normal ?_
  refine WC_seq ?_
  refine WC_region ?_
  refine WL_x (x_move (v := .slice _ _ _) rfl) ?_
  refine WL_x (x_move (v := .int .i64 _) rfl) ?_
  refine WL_x (x_move (v := .int .i64 _) rfl) ?_
  refine WL_x (x_move (v := .pointer _) rfl) ?_
  refine WL_call (vs := [.slice _ _ _, .int .i64 _, .int .i64 _, .pointer _]) Try.func34 rfl rfl rfl (order2_i32 _ d A c n s _ (H.rcells .zero) (H.ok _ List.mem_cons_self) hd hM hsz _ _ (by omega) (by omega)) ?_
  rintro _ w ⟨x3, y3, q3, rfl, ho3, hf, hok⟩
  refine ⟨_, rfl, ?_⟩
  replace H := H.turn .zero hf (fun _ h => .inl h) hok (fun _ h => .inl h)
  refine WL_x (x_move (v := .tuple _) rfl) ?_
  refine WL_x (x_extract (v := .int .i64 _) rfl rfl) ?_
  refine WL_x (x_extract (v := .int .i64 _) rfl rfl) ?_
  refine WL_x (x_assign (v := .int .i64 _) rfl) ?_
  refine WL_x (x_assign (v := .int .i64 _) rfl) ?_
  refine WL_nil ?_
  refine thenE_normal ?_
  refine WC_seq ?_
  refine WC_region ?_
  refine WL_x (x_move (v := .int .i64 _) rfl) ?_
  refine WL_x (x_assign (v := .int .i64 _) rfl) ?_
  refine WL_nil ?_
  refine thenE_normal ?_
  refine WC_ret ?_
  refine ends1 (v := .int .i64 _) Try.results32 rfl ?_
  exact ⟨_, _, rfl, by omega, H.fr, H.ok _ List.mem_cons_self⟩

theorem medianAdj_i32 (W : World) (d : Array Int) (A : Option Addr) (c n s : Nat) (q : Int) (hx : Cells W A (nums .i32 d.toList)) (hs : (blk s [.int .i64 q] 3).ok W) (hd : ∀ b, b ∈ (blk s [.int .i64 q] 3).fp → b ∉ (Go.HW.cells A (nums .i32 d.toList)).fp) (hM : d.toList.length = n) (hsz : n ≤ 2305843009213693952) (x : Int) (h1 : 1 ≤ x ∧ x + 1 < n) :
    Calls Try.prog 31 #[.slice A n c, .int .i64 x, .pointer (some ⟨s, 0, none⟩)] W fun e w' => ∃ v q', e = .returned (.int .i64 v) ∧ x - 1 ≤ v ∧ v ≤ x + 1 ∧ Fr [s] W w' ∧ (blk s [.int .i64 q'] 3).ok w' := by
  have H : St W [s] [blk s [.int .i64 q] 3] [Go.HW.cells A (nums .i32 d.toList)] W := St.oneRo hs (by simp; exact cells_ok hx) (by simp only [List.mem_singleton, forall_eq]; exact hd)
  refine calls_enter (N := 15) Try.func31 rfl Try.ntmps31 rfl ?_
  refine WC_seq ?_
  refine WC_region ?_
  refine WL_x (x_assign (v := (.int .i64 0)) rfl) ?_
  refine WL_nil ?_
  refine thenE_normal ?_
  refine WC_seq ?_
  refine WC_region ?_
  refine WL_x (x_move (v := .slice _ _ _) rfl) ?_
  refine WL_x (x_move (v := .int .i64 _) rfl) ?_
  refine WL_x (x_binop rfl rfl (r_sub_in (i64_in (by omega) (by omega)))) ?_
  refine WL_x (x_move (v := .int .i64 _) rfl) ?_
  refine WL_x (x_move (v := .int .i64 _) rfl) ?_
  refine WL_x (x_binop rfl rfl (r_add_in (i64_in (by omega) (by omega)))) ?_
  refine WL_x (x_move (v := .pointer _) rfl) ?_
  refine WL_call (vs := [.slice _ _ _, .int .i64 _, .int .i64 _, .int .i64 _, .pointer _]) Try.func32 rfl rfl rfl (median_i32 _ d A c n s _ (H.rcells .zero) (H.ok _ List.mem_cons_self) hd hM hsz _ _ _ (by omega) (by omega) (by omega)) ?_
  rintro _ w ⟨v, q1, rfl, hv, hf, hok⟩
  refine ⟨_, rfl, ?_⟩
  replace H := H.turn .zero hf (fun _ h => .inl h) hok (fun _ h => .inl h)
  refine WL_x (x_assign (v := .int .i64 _) rfl) ?_
  refine WL_nil ?_
  refine thenE_normal ?_
  refine WC_ret ?_
  refine ends1 (v := .int .i64 _) Try.results31 rfl ?_
  exact ⟨_, _, rfl, by omega, by omega, H.fr, H.ok _ List.mem_cons_self⟩

set_option maxHeartbeats 1000000 in
theorem choose_i32 (W : World) (d : Array Int) (A : Option Addr) (c n : Nat) (hx : Cells W A (nums .i32 d.toList)) (hM : d.toList.length = n) (hsz : n ≤ 2305843009213693952) (a b : Nat) (hab : a < b) (hb : b ≤ n) :
    Calls Try.prog 20 #[.slice A n c, .int .i64 a, .int .i64 b] W fun e w' => ∃ (p : Nat) (hint : Int), e = .returned (.tuple #[.int .i64 p, .int .i64 hint]) ∧ a ≤ p ∧ p < b ∧ Fr [] W w' := by
  have H : St W [] [] [Go.HW.cells A (nums .i32 d.toList)] W := St.start [] (by simp; exact cells_ok hx)
  refine calls_enter (N := 57) Try.func20 rfl Try.ntmps20 rfl ?_
  refine WC_seq ?_
  refine WC_region ?_
  refine WL_x (x_assign (v := (.int .i64 0)) rfl) ?_
  refine WL_x (x_assign (v := (.int .i64 0)) rfl) ?_
  refine WL_nil ?_
  refine thenE_normal ?_
  refine WC_seq ?_
  refine WC_region ?_
  refine WL_x (x_move (v := .int .i64 _) rfl) ?_
  refine WL_x (x_move (v := .int .i64 _) rfl) ?_
  refine WL_x (x_binop rfl rfl (r_sub_in (i64_in (by omega) (by omega)))) ?_
  refine WL_x (x_assign (v := .int .i64 _) rfl) ?_
  refine WL_nil ?_
  refine thenE_normal ?_
  refine WC_seq ?_
  refine WC_region ?_
  refine WL_alloc (l := [(.int .i64 0)]) (by kernel_rfl) H ?_
  clear H; intro b9 w H
  refine WL_nil ?_
  refine thenE_normal ?_
  refine WC_seq ?_
  refine WC_region ?_
  refine WL_x (x_move (v := .int .i64 _) rfl) ?_
  refine WL_x (x_move (v := .int .i64 _) rfl) ?_
  refine WL_x (x_binop rfl rfl (r_quo_nat (by omega) (by omega) (i64_in (by omega) (by omega)))) ?_
  refine WL_x (x_binop rfl rfl (r_mul_in (i64_in (by omega) (by omega)))) ?_
  refine WL_x (x_binop rfl rfl (r_add_in (i64_in (by omega) (by omega)))) ?_
  refine WL_x (x_assign (v := .int .i64 _) rfl) ?_
  refine WL_nil ?_
  refine thenE_normal ?_
  refine WC_seq ?_
  refine WC_region ?_
  refine WL_x (x_move (v := .int .i64 _) rfl) ?_
  refine WL_x (x_move (v := .int .i64 _) rfl) ?_
  refine WL_x (x_binop rfl rfl (r_quo_nat (by omega) (by omega) (i64_in (by omega) (by omega)))) ?_
  refine WL_x (x_binop rfl rfl (r_mul_in (i64_in (by omega) (by omega)))) ?_
  refine WL_x (x_binop rfl rfl (r_add_in (i64_in (by omega) (by omega)))) ?_
  refine WL_x (x_assign (v := .int .i64 _) rfl) ?_
  refine WL_nil ?_
  refine thenE_normal ?_
  refine WC_seq ?_
  refine WC_region ?_
  refine WL_x (x_move (v := .int .i64 _) rfl) ?_
  refine WL_x (x_move (v := .int .i64 _) rfl) ?_
  refine WL_x (x_binop rfl rfl (r_quo_nat (by omega) (by omega) (i64_in (by omega) (by omega)))) ?_
  refine WL_x (x_binop rfl rfl (r_mul_in (i64_in (by omega) (by omega)))) ?_
  refine WL_x (x_binop rfl rfl (r_add_in (i64_in (by omega) (by omega)))) ?_
  refine WL_x (x_assign (v := .int .i64 _) rfl) ?_
  refine WL_nil ?_
  refine thenE_normal ?_
  refine WC_cut (fun (s : Nat × Int) f w' => a ≤ s.1 ∧ s.1 < b ∧ f 11 = .int .i64 s.1 ∧ f 9 = .pointer (some ⟨b9, 0, none⟩) ∧ St W [] [blk b9 [.int .i64 s.2] 3] [Go.HW.cells A (nums .i32 d.toList)] w') ?_ ?_
  · refine WC_seq ?_
    refine WC_region ?_
    refine WL_x (x_move (v := .int .i64 _) rfl) ?_
    refine WL_x (x_binop rfl rfl (r_geq _ _ _ _)) ?_
    refine WL_nil ?_
    refine thenE_normal ?_
    first | refine WC_ifd rfl (fun h32 => ?_) (fun h32 => ?_) | refine WC_ifn rfl (fun h32 => ?_) (fun h32 => ?_) | refine WC_if rfl (fun h32 => ?_) (fun h32 => ?_)
    · refine WC_cut (fun (s : Int × Int × Int × Int) f w' => ((a ≤ s.1 ∧ s.1 < b) ∧ (a ≤ s.2.1 ∧ s.2.1 < b) ∧ (a ≤ s.2.2.1 ∧ s.2.2.1 < b)) ∧ f 10 = .int .i64 s.1 ∧ f 11 = .int .i64 s.2.1 ∧ f 12 = .int .i64 s.2.2.1 ∧ f 0 = .slice A n c ∧ f 9 = .pointer (some ⟨b9, 0, none⟩) ∧ St W [] [blk b9 [.int .i64 s.2.2.2] 3] [Go.HW.cells A (nums .i32 d.toList)] w') ?_ ?_
      · refine WC_seq ?_
        refine WC_region ?_
        refine WL_x (x_move (v := .int .i64 _) rfl) ?_
        refine WL_x (x_binop rfl rfl (r_geq _ _ _ _)) ?_
        refine WL_nil ?_
        refine thenE_normal ?_
        first | refine WC_ifd rfl (fun h34 => ?_) (fun h34 => ?_) | refine WC_ifn rfl (fun h34 => ?_) (fun h34 => ?_) | refine WC_if rfl (fun h34 => ?_) (fun h34 => ?_)
        · refine WC_seq ?_
          refine WC_region ?_
          refine WL_x (x_move (v := .slice _ _ _) rfl) ?_
          refine WL_x (x_move (v := .int .i64 _) rfl) ?_
          refine WL_call (vs := [.slice _ _ _, .int .i64 _, .pointer (some _)]) Try.func31 rfl rfl rfl (medianAdj_i32 _ d A c n b9 _ (H.rcells .zero) (H.ok _ List.mem_cons_self) (fun x hx hc => H.apartR .zero .zero x hx hc) hM hsz _ (by omega)) ?_
          rintro _ w ⟨v1, q1, rfl, hv1, hw1, hf, hok⟩
          refine ⟨_, rfl, ?_⟩
          replace H := H.turn .zero hf (fun _ h => .inl h) hok (fun _ h => .inl h)
          refine WL_x (x_assign (v := .int .i64 _) rfl) ?_
          refine WL_nil ?_
          refine thenE_normal ?_
          refine WC_seq ?_
          refine WC_region ?_
          refine WL_x (x_move (v := .slice _ _ _) rfl) ?_
          refine WL_x (x_move (v := .int .i64 _) rfl) ?_
          refine WL_call (vs := [.slice _ _ _, .int .i64 _, .pointer (some _)]) Try.func31 rfl rfl rfl (medianAdj_i32 _ d A c n b9 _ (H.rcells .zero) (H.ok _ List.mem_cons_self) (fun x hx hc => H.apartR .zero .zero x hx hc) hM hsz _ (by omega)) ?_
          rintro _ w ⟨v2, q2, rfl, hv2, hw2, hf, hok⟩
          refine ⟨_, rfl, ?_⟩
          replace H := H.turn .zero hf (fun _ h => .inl h) hok (fun _ h => .inl h)
          refine WL_x (x_assign (v := .int .i64 _) rfl) ?_
          refine WL_nil ?_
          refine thenE_normal ?_
          refine WC_region ?_
          refine WL_x (x_move (v := .slice _ _ _) rfl) ?_
          refine WL_x (x_move (v := .int .i64 _) rfl) ?_
          refine WL_call (vs := [.slice _ _ _, .int .i64 _, .pointer (some _)]) Try.func31 rfl rfl rfl (medianAdj_i32 _ d A c n b9 _ (H.rcells .zero) (H.ok _ List.mem_cons_self) (fun x hx hc => H.apartR .zero .zero x hx hc) hM hsz _ (by omega)) ?_
          rintro _ w ⟨v3, q3, rfl, hv3, hw3, hf, hok⟩
          refine ⟨_, rfl, ?_⟩
          replace H := H.turn .zero hf (fun _ h => .inl h) hok (fun _ h => .inl h)
          refine WL_x (x_assign (v := .int .i64 _) rfl) ?_
          refine WL_nil ?_
          refine thenE_normal ?_
          first
            | exact ⟨(v1, v2, v3, q3), by simp only; omega, rfl, rfl, rfl, rfl, rfl, H⟩
            | exact ⟨(_, _, _, 0), by simp only; omega, rfl, rfl, rfl, rfl, rfl, H⟩
        · refine WC_skip ?_
          refine thenE_normal ?_
          first
            | exact ⟨(v1, v2, v3, q3), by simp only; omega, rfl, rfl, rfl, rfl, rfl, H⟩
            | exact ⟨(_, _, _, 0), by simp only; omega, rfl, rfl, rfl, rfl, rfl, H⟩
      · clear H
        rintro ⟨i, j, l, q⟩ f w ⟨hijl, h10, h11, h12, h0, h9, H⟩
        simp only at hijl h10 h11 h12 h0 h9 H
        rw [← upd_self h10, ← upd_self h11, ← upd_self h12, ← upd_self h0, ← upd_self h9]
        refine WC_region ?_
        refine WL_x (x_move (v := .slice _ _ _) rfl) ?_
        refine WL_x (x_move (v := .int .i64 _) rfl) ?_
        refine WL_x (x_move (v := .int .i64 _) rfl) ?_
        refine WL_x (x_move (v := .int .i64 _) rfl) ?_
        refine WL_call (vs := [.slice _ _ _, .int .i64 _, .int .i64 _, .int .i64 _, .pointer (some _)]) Try.func32 rfl rfl rfl (median_i32 _ d A c n b9 _ (H.rcells .zero) (H.ok _ List.mem_cons_self) (fun x hx hc => H.apartR .zero .zero x hx hc) hM hsz _ _ _ (by omega) (by omega) (by omega)) ?_
        rintro _ w ⟨v4, q4, rfl, hv4, hf, hok⟩
        refine ⟨_, rfl, ?_⟩
        replace H := H.turn .zero hf (fun _ h => .inl h) hok (fun _ h => .inl h)
        refine WL_x (x_assign (v := .int .i64 _) rfl) ?_
        refine WL_nil ?_
        refine thenE_normal ?_
        first
          | exact ⟨(v4.toNat, q4), by simp only; omega, by simp only; omega, (congrArg (Value.int .i64) (by first | omega | rfl | (simp only; omega))), rfl, H⟩
          | exact ⟨(a + (b - a) / 4 * 2, 0), by simp only; omega, by simp only; omega, (congrArg (Value.int .i64) (by first | omega | rfl | (simp only; omega))), rfl, H⟩
    · refine WC_skip ?_
      refine thenE_normal ?_
      first
        | exact ⟨(v4.toNat, q4), by simp only; omega, by simp only; omega, (congrArg (Value.int .i64) (by first | omega | rfl | (simp only; omega))), rfl, H⟩
        | exact ⟨(a + (b - a) / 4 * 2, 0), by simp only; omega, by simp only; omega, (congrArg (Value.int .i64) (by first | omega | rfl | (simp only; omega))), rfl, H⟩
  · clear H
    rintro ⟨p, q⟩ f w ⟨hp1, hp2, h11, h9, H⟩
    simp only at hp1 hp2 h11 h9 H
    rw [← upd_self h11, ← upd_self h9]
    refine WC_seq ?_
    refine WC_region ?_
    first | refine WL_x (x_load (v := .int .i64 _) Try.underlying3 rfl rfl (H.cellAt .zero rfl)) ?_ | refine WL_x (x_load (v := .int .i64 _) Try.underlying3 rfl rfl (H.cellAt (.succ .zero) rfl)) ?_ | refine WL_x (x_load (v := .int .i64 _) Try.underlying3 rfl rfl (H.cellAt (.succ (.succ .zero)) rfl)) ?_ | refine WL_x (x_load (v := .int .i64 _) Try.underlying3 rfl rfl (H.cellAt (.succ (.succ (.succ .zero))) rfl)) ?_ | refine WL_x (x_load (v := .int .i64 _) Try.underlying3 rfl rfl (H.cellAt (.succ (.succ (.succ (.succ .zero)))) rfl)) ?_ | refine WL_x (x_load Try.underlying3 rfl rfl (H.rnum .zero (by omega) (by omega))) ?_ | refine WL_x (x_load Try.underlying3 rfl rfl (H.rnum (.succ .zero) (by omega) (by omega))) ?_ | refine WL_x (x_load Try.underlying3 rfl rfl (H.rnum (.succ (.succ .zero)) (by omega) (by omega))) ?_ | refine WL_x (x_load Try.underlying3 rfl rfl (H.onum .zero (by omega) (by omega))) ?_ | refine WL_x (x_load Try.underlying3 rfl rfl (H.onum (.succ .zero) (by omega) (by omega))) ?_ | refine WL_x (x_load Try.underlying3 rfl rfl (H.onum (.succ (.succ .zero)) (by omega) (by omega))) ?_
    refine WL_nil ?_
    refine thenE_normal ?_
    refine WC_block ?_
    refine WC_seq ?_
    refine WC_region ?_
    refine WL_x (x_binop rfl rfl (r_eql _ _ _ _)) ?_
    refine WL_x (x_assign (v := .bool _) rfl) ?_
    refine WL_nil ?_
    refine thenE_normal ?_
    first | refine WC_ifd rfl (fun h51 => ?_) (fun h51 => ?_) | refine WC_ifn rfl (fun h51 => ?_) (fun h51 => ?_) | refine WC_if rfl (fun h51 => ?_) (fun h51 => ?_)
    · refine WC_seq ?_
      refine WC_region ?_
      refine WL_x (x_move (v := .int .i64 _) rfl) ?_
      refine WL_x (x_assign (v := .int .i64 _) rfl) ?_
      refine WL_x (x_assign (v := (.int .i64 1)) rfl) ?_
      refine WL_nil ?_
      refine thenE_normal ?_
      refine WC_ret ?_
      refine inBlockE_ret ?_
      refine ends2 (v1 := .int .i64 _) (v2 := .int .i64 _) Try.results20 rfl rfl ?_
      exact ⟨p, _, rfl, hp1, hp2, H.fr⟩
    · refine WC_seq ?_
      refine WC_region ?_
      refine WL_x (x_binop rfl rfl (r_eql _ _ _ _)) ?_
      refine WL_x (x_assign (v := .bool _) rfl) ?_
      refine WL_nil ?_
      refine thenE_normal ?_
      first | refine WC_ifd rfl (fun h54 => ?_) (fun h54 => ?_) | refine WC_ifn rfl (fun h54 => ?_) (fun h54 => ?_) | refine WC_if rfl (fun h54 => ?_) (fun h54 => ?_)
      · refine WC_seq ?_
        refine WC_region ?_
        refine WL_x (x_move (v := .int .i64 _) rfl) ?_
        refine WL_x (x_assign (v := .int .i64 _) rfl) ?_
        refine WL_x (x_assign (v := (.int .i64 2)) rfl) ?_
        refine WL_nil ?_
        refine thenE_normal ?_
        refine WC_ret ?_
        refine inBlockE_ret ?_
        refine ends2 (v1 := .int .i64 _) (v2 := .int .i64 _) Try.results20 rfl rfl ?_
        exact ⟨p, _, rfl, hp1, hp2, H.fr⟩
      · refine WC_seq ?_
        refine WC_region ?_
        refine WL_x (x_move (v := .int .i64 _) rfl) ?_
        refine WL_x (x_assign (v := .int .i64 _) rfl) ?_
        refine WL_x (x_assign (v := (.int .i64 0)) rfl) ?_
        refine WL_nil ?_
        refine thenE_normal ?_
        refine WC_ret ?_
        refine inBlockE_ret ?_
        refine ends2 (v1 := .int .i64 _) (v2 := .int .i64 _) Try.results20 rfl rfl ?_
        exact ⟨p, _, rfl, hp1, hp2, H.fr⟩
end Go.Proofs.Ytjagiknmaoilhaa
