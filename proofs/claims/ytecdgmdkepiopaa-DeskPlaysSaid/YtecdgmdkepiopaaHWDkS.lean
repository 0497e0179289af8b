import Derived.Test.YtecdgmdkepiopaaHWDkB
import Derived.Test.YtecdgmdkepiopaaHWSort
set_option linter.unusedSimpArgs false
set_option linter.unusedVariables false
set_option linter.unusedSectionVars false
namespace Go.Proofs.Ytecdgmdkepiopaa
open Go Go.HW Go.RowKit
attribute [local irreducible] WL WC WG wpList Code.wp

theorem isNaN_u32 (W : World) (x : Int) : Calls Try.prog 59 #[.int .u32 x] W fun e w' => e = .returned (.bool false) ∧ Fr [] W w' := by
  have H : St W [] [] [] W := St.start [] (by simp)
  refine calls_enter (N := 6) Try.func59 rfl Try.ntmps59 rfl ?_
  refine WC_seq ?_
  refine WC_region ?_
  refine WL_x (x_assign (v := (.bool false)) rfl) ?_
  refine WL_nil ?_
  refine thenE_normal ?_
  refine WC_seq ?_
  refine WC_region ?_
  refine WL_x (x_move (v := .int .u32 _) rfl) ?_
  refine WL_x (x_move (v := .int .u32 _) rfl) ?_
  refine WL_x (x_binop rfl rfl (r_neq _ _ _ _)) ?_
  refine WL_x (x_assign (v := .bool _) rfl) ?_
  refine WL_nil ?_
  refine thenE_normal ?_
  refine WC_ret ?_
  refine ends1 (v := .bool _) Try.results59 rfl ?_
  exact ⟨by simp, H.fr⟩

theorem less_u32 (W : World) (x y : Int) : Calls Try.prog 47 #[.int .u32 x, .int .u32 y] W fun e w' => e = .returned (.bool (decide (x < y))) ∧ Fr [] W w' := by
  have H : St W [] [] [] W := St.start [] (by simp)
  refine calls_enter (N := 17) Try.func47 rfl Try.ntmps47 rfl ?_
  refine WC_seq ?_
  refine WC_region ?_
  refine WL_x (x_assign (v := (.bool false)) rfl) ?_
  refine WL_nil ?_
  refine thenE_normal ?_
  refine WC_seq ?_
  refine WC_region ?_
  refine WL_x (x_move (v := .int .u32 _) rfl) ?_
  refine WL_call (vs := [.int .u32 _]) Try.func59 rfl rfl rfl (isNaN_u32 _ _) ?_
  rintro _ w ⟨rfl, hf⟩
  refine ⟨_, rfl, ?_⟩
  replace H := H.quiet hf
  refine WL_x (x_move (v := .bool _) rfl) ?_
  refine WL_guard_no rfl rfl rfl ?_
  refine WL_guard_no rfl rfl rfl ?_
  refine WL_guard_no rfl rfl rfl ?_
  refine WL_x (x_pick (v := .bool _) rfl rfl) ?_
  refine WL_x (x_move (v := .bool _) rfl) ?_
  refine WL_guard_yes rfl rfl rfl ?_
  refine WL_x (x_move (v := .int .u32 _) rfl) ?_
  refine WL_guard_yes rfl rfl rfl ?_
  refine WL_x (x_move (v := .int .u32 _) rfl) ?_
  refine WL_guard_yes rfl rfl rfl ?_
  refine WL_x (x_binop rfl rfl (r_lss _ _ _ _)) ?_
  refine WL_x (x_pick (v := .bool _) rfl rfl) ?_
  refine WL_x (x_assign (v := .bool _) rfl) ?_
  refine WL_nil ?_
  refine thenE_normal ?_
  refine WC_ret ?_
  refine ends1 (v := .bool _) Try.results47 rfl ?_
  exact ⟨rfl, H.fr⟩

set_option maxHeartbeats 1000000 in
theorem insertion_u32 (W : World) (xs : List Int) (A : Option Addr) (c a b : Nat) (h : (row A c 22 1 xs.length (nums .u32 xs)).ok W) (hb : b ≤ xs.length) (hab : a ≤ b) (hsz : xs.length ≤ 4611686018427387904) :
    Calls Try.prog 41 #[.slice A xs.length c, .int .i64 a, .int .i64 b] W fun e w' => ∃ ys, e = .returned (.tuple #[]) ∧ Fr (row A c 22 1 xs.length (nums .u32 xs)).fp W w' ∧ Within xs ys a b ∧ sortedOn ys a b ∧ (row A c 22 1 xs.length (nums .u32 ys)).ok w' := by
  have hlen0 := (owns_len h.r)
  unfold maxLen at hlen0
  have H : St W (row A c 22 1 xs.length (nums .u32 xs)).fp [row A c 22 1 xs.length (nums .u32 xs)] [] W := St.one h
  refine calls_enter (N := 49) Try.func41 rfl Try.ntmps41 rfl ?_
  refine WC_seq ?_
  refine WC_region ?_
  refine WL_x (x_move (v := .int .i64 _) rfl) ?_
  refine WL_x (x_binop rfl rfl (r_add_in (i64_in (by omega) (by omega)))) ?_
  refine WL_x (x_assign (v := .int .i64 _) rfl) ?_
  refine WL_nil ?_
  refine thenE_normal ?_
  refine WC_block ?_
  refine WC_while (fun (s : Nat × List Int) f w' => a + 1 ≤ s.1 ∧ (s.1 ≤ b ∨ s.1 = a + 1) ∧ Within xs s.2 a b ∧ sortedOn s.2 a s.1 ∧ f 6 = .int .i64 s.1 ∧ f 0 = .slice A xs.length c ∧ f 1 = .int .i64 a ∧ f 2 = .int .i64 b ∧ St W (row A c 22 1 xs.length (nums .u32 xs)).fp [row A c 22 1 xs.length (nums .u32 s.2)] [] w') (fun s => b - s.1) (s0 := (a + 1, xs)) ?_ ?_
  · exact ⟨Nat.le_refl _, .inr rfl, Within.refl _ _ _, fun p q h1 h2 h3 => by simp only at h3; omega, by simp [upd], rfl, rfl, rfl, H⟩
  · clear H
    rintro ⟨i, L⟩ f w ⟨hi1, hi2, hW, hso, h6, h0, h1, h2, H⟩
    simp only at hi1 hi2 hW hso h6 h0 h1 h2 H
    rw [← upd_self h6, ← upd_self h0, ← upd_self h1, ← upd_self h2]
    have hlen := hW.len
    refine WC_seq ?_
    refine WC_seq ?_
    refine WC_region ?_
    refine WL_x (x_move (v := .int .i64 _) rfl) ?_
    refine WL_x (x_move (v := .int .i64 _) rfl) ?_
    refine WL_x (x_binop rfl rfl (r_lss _ _ _ _)) ?_
    refine WL_nil ?_
    refine thenE_normal ?_
    refine WC_ifd rfl (fun h12 => ?_) (fun h12 => ?_)
    · have hib : i < b := by omega
      refine WC_skip ?_
      refine thenE_normal ?_
      refine WC_cut (fun (M : List Int) f w' => Within xs M a b ∧ sortedOn M a (i + 1) ∧ f 6 = .int .i64 i ∧ f 0 = .slice A xs.length c ∧ f 1 = .int .i64 a ∧ f 2 = .int .i64 b ∧ St W (row A c 22 1 xs.length (nums .u32 xs)).fp [row A c 22 1 xs.length (nums .u32 M)] [] w') ?_ ?_
      · refine WC_block ?_
        refine WC_seq ?_
        refine WC_region ?_
        refine WL_x (x_move (v := .int .i64 _) rfl) ?_
        refine WL_x (x_assign (v := .int .i64 _) rfl) ?_
        refine WL_nil ?_
        refine thenE_normal ?_
        refine WC_block ?_
        refine WC_while (fun (s : Nat × List Int) f w' => a ≤ s.1 ∧ s.1 ≤ i ∧ Within xs s.2 a b ∧ Ins s.2 a i s.1 ∧ f 7 = .int .i64 s.1 ∧ f 6 = .int .i64 i ∧ f 0 = .slice A xs.length c ∧ f 1 = .int .i64 a ∧ f 2 = .int .i64 b ∧ St W (row A c 22 1 xs.length (nums .u32 xs)).fp [row A c 22 1 xs.length (nums .u32 s.2)] [] w') (fun s => s.1) (s0 := (i, L)) ?_ ?_
        · exact ⟨by simp only; omega, Nat.le_refl _, hW, Ins.start hso, rfl, rfl, rfl, rfl, rfl, H⟩
        · clear H
          rintro ⟨j, M⟩ f w ⟨hj1, hj2, hWM, hI, h7, h6, h0, h1, h2, H⟩
          simp only at hj1 hj2 hWM hI h7 h6 h0 h1 h2 H
          rw [← upd_self h7, ← upd_self h6, ← upd_self h0, ← upd_self h1, ← upd_self h2]
          have hlM := hWM.len
          refine WC_seq ?_
          refine WC_seq ?_
          refine WC_drawH (m := 15) (listed := [false, false, false, false, false, false, false, false, false, false, false, false, false, false, false]) 15 (by kernel_rfl) rfl rfl H ?_
          intro w H
          refine WG_take (i := 0) (listed' := [true, false, false, false, false, false, false, false, false, false, false, false, false, false, false]) rfl (by kernel_rfl) (fun w H => x_move (v := .int .i64 _) rfl) H rfl ?_
          refine WG_take (i := 1) (listed' := [true, true, false, false, false, false, false, false, false, false, false, false, false, false, false]) rfl (by kernel_rfl) (fun w H => x_move (v := .int .i64 _) rfl) H rfl ?_
          refine WG_take (i := 2) (listed' := [true, true, true, false, false, false, false, false, false, false, false, false, false, false, false]) rfl (by kernel_rfl) (fun w H => x_binop rfl rfl (r_gtr _ _ _ _)) H rfl ?_
          refine WG_take (i := 3) (listed' := [true, true, true, true, false, false, false, false, false, false, false, false, false, false, false]) rfl (by kernel_rfl) (fun w H => x_move (v := .bool _) rfl) H rfl ?_
          first | refine WG_cased (t := 19) rfl (fun h19 => ?_) (fun h19 => ?_) | refine WG_casen (t := 19) rfl (fun h19 => ?_) (fun h19 => ?_) | refine WG_case (t := 19) rfl (fun h19 => ?_) (fun h19 => ?_)
          · obtain ⟨j, rfl⟩ : ∃ j0, j = j0 + 1 := ⟨j - 1, by omega⟩
            have hc1 : ((j + 1 : Nat) : Int) - 1 = (j : Nat) := by omega
            refine WG_takeG (i := 4) (listed' := [true, true, true, true, true, false, false, false, false, false, false, false, false, false, false]) rfl (by kernel_rfl) rfl rfl rfl (fun w H => x_move (v := .slice _ _ _) rfl) H rfl ?_
            refine WG_takeG (i := 5) (listed' := [true, true, true, true, true, true, false, false, false, false, false, false, false, false, false]) rfl (by kernel_rfl) rfl rfl rfl (fun w H => x_move (v := .int .i64 _) rfl) H rfl ?_
            refine WG_takeG (i := 6) (listed' := [true, true, true, true, true, true, true, false, false, false, false, false, false, false, false]) rfl (by kernel_rfl) rfl rfl rfl (fun w H => x_indexAddr (s := 1) Try.underlying33 (by kernel_rfl) rfl rfl (by omega) (by omega) (by first | rfl | assumption | exact H.rsomen .zero (by omega) | exact H.rsomen (.succ .zero) (by omega) | exact H.osomen .zero (by omega) | exact H.osomen (.succ .zero) (by omega)) rfl) H rfl ?_
            first | refine WG_takeG (i := 7) (listed' := [true, true, true, true, true, true, true, true, false, false, false, false, false, false, false]) rfl (by kernel_rfl) rfl rfl rfl (fun w H => x_load (v := .int .u32 _) Try.underlying22 rfl rfl (H.cellAt .zero rfl)) H rfl ?_ | refine WG_takeG (i := 7) (listed' := [true, true, true, true, true, true, true, true, false, false, false, false, false, false, false]) rfl (by kernel_rfl) rfl rfl rfl (fun w H => x_load (v := .int .u32 _) Try.underlying22 rfl rfl (H.cellAt (.succ .zero) rfl)) H rfl ?_ | refine WG_takeG (i := 7) (listed' := [true, true, true, true, true, true, true, true, false, false, false, false, false, false, false]) rfl (by kernel_rfl) rfl rfl rfl (fun w H => x_load (v := .int .u32 _) Try.underlying22 rfl rfl (H.cellAt (.succ (.succ .zero)) rfl)) H rfl ?_ | refine WG_takeG (i := 7) (listed' := [true, true, true, true, true, true, true, true, false, false, false, false, false, false, false]) rfl (by kernel_rfl) rfl rfl rfl (fun w H => x_load (v := .int .u32 _) Try.underlying22 rfl rfl (H.cellAt (.succ (.succ (.succ .zero))) rfl)) H rfl ?_ | refine WG_takeG (i := 7) (listed' := [true, true, true, true, true, true, true, true, false, false, false, false, false, false, false]) rfl (by kernel_rfl) rfl rfl rfl (fun w H => x_load (v := .int .u32 _) Try.underlying22 rfl rfl (H.cellAt (.succ (.succ (.succ (.succ .zero)))) rfl)) H rfl ?_ | refine WG_takeG (i := 7) (listed' := [true, true, true, true, true, true, true, true, false, false, false, false, false, false, false]) rfl (by kernel_rfl) rfl rfl rfl (fun w H => x_load Try.underlying22 rfl rfl (H.rnum .zero (by omega) (by omega))) H rfl ?_ | refine WG_takeG (i := 7) (listed' := [true, true, true, true, true, true, true, true, false, false, false, false, false, false, false]) rfl (by kernel_rfl) rfl rfl rfl (fun w H => x_load Try.underlying22 rfl rfl (H.rnum (.succ .zero) (by omega) (by omega))) H rfl ?_ | refine WG_takeG (i := 7) (listed' := [true, true, true, true, true, true, true, true, false, false, false, false, false, false, false]) rfl (by kernel_rfl) rfl rfl rfl (fun w H => x_load Try.underlying22 rfl rfl (H.onum .zero (by omega) (by omega))) H rfl ?_ | refine WG_takeG (i := 7) (listed' := [true, true, true, true, true, true, true, true, false, false, false, false, false, false, false]) rfl (by kernel_rfl) rfl rfl rfl (fun w H => x_load Try.underlying22 rfl rfl (H.onum (.succ .zero) (by omega) (by omega))) H rfl ?_
            refine WG_takeG (i := 8) (listed' := [true, true, true, true, true, true, true, true, true, false, false, false, false, false, false]) rfl (by kernel_rfl) rfl rfl rfl (fun w H => x_move (v := .slice _ _ _) rfl) H rfl ?_
            refine WG_takeG (i := 9) (listed' := [true, true, true, true, true, true, true, true, true, true, false, false, false, false, false]) rfl (by kernel_rfl) rfl rfl rfl (fun w H => x_move (v := .int .i64 _) rfl) H rfl ?_
            refine WG_takeG (i := 10) (listed' := [true, true, true, true, true, true, true, true, true, true, true, false, false, false, false]) rfl (by kernel_rfl) rfl rfl rfl (fun w H => x_binop rfl rfl (r_sub_in (i64_in (by omega) (by omega)))) H rfl ?_
            refine WG_takeG (i := 11) (listed' := [true, true, true, true, true, true, true, true, true, true, true, true, false, false, false]) rfl (by kernel_rfl) rfl rfl rfl (fun w H => x_indexAddr (s := 1) Try.underlying33 (by kernel_rfl) rfl rfl (by omega) (by omega) (by first | rfl | assumption | exact H.rsomen .zero (by omega) | exact H.rsomen (.succ .zero) (by omega) | exact H.osomen .zero (by omega) | exact H.osomen (.succ .zero) (by omega)) rfl) H rfl ?_
            first | refine WG_takeG (i := 12) (listed' := [true, true, true, true, true, true, true, true, true, true, true, true, true, false, false]) rfl (by kernel_rfl) rfl rfl rfl (fun w H => x_load (v := .int .u32 _) Try.underlying22 rfl rfl (H.cellAt .zero rfl)) H rfl ?_ | refine WG_takeG (i := 12) (listed' := [true, true, true, true, true, true, true, true, true, true, true, true, true, false, false]) rfl (by kernel_rfl) rfl rfl rfl (fun w H => x_load (v := .int .u32 _) Try.underlying22 rfl rfl (H.cellAt (.succ .zero) rfl)) H rfl ?_ | refine WG_takeG (i := 12) (listed' := [true, true, true, true, true, true, true, true, true, true, true, true, true, false, false]) rfl (by kernel_rfl) rfl rfl rfl (fun w H => x_load (v := .int .u32 _) Try.underlying22 rfl rfl (H.cellAt (.succ (.succ .zero)) rfl)) H rfl ?_ | refine WG_takeG (i := 12) (listed' := [true, true, true, true, true, true, true, true, true, true, true, true, true, false, false]) rfl (by kernel_rfl) rfl rfl rfl (fun w H => x_load (v := .int .u32 _) Try.underlying22 rfl rfl (H.cellAt (.succ (.succ (.succ .zero))) rfl)) H rfl ?_ | refine WG_takeG (i := 12) (listed' := [true, true, true, true, true, true, true, true, true, true, true, true, true, false, false]) rfl (by kernel_rfl) rfl rfl rfl (fun w H => x_load (v := .int .u32 _) Try.underlying22 rfl rfl (H.cellAt (.succ (.succ (.succ (.succ .zero)))) rfl)) H rfl ?_ | refine WG_takeG (i := 12) (listed' := [true, true, true, true, true, true, true, true, true, true, true, true, true, false, false]) rfl (by kernel_rfl) rfl rfl rfl (fun w H => x_load Try.underlying22 rfl rfl (H.rnum .zero (by omega) (by omega))) H rfl ?_ | refine WG_takeG (i := 12) (listed' := [true, true, true, true, true, true, true, true, true, true, true, true, true, false, false]) rfl (by kernel_rfl) rfl rfl rfl (fun w H => x_load Try.underlying22 rfl rfl (H.rnum (.succ .zero) (by omega) (by omega))) H rfl ?_ | refine WG_takeG (i := 12) (listed' := [true, true, true, true, true, true, true, true, true, true, true, true, true, false, false]) rfl (by kernel_rfl) rfl rfl rfl (fun w H => x_load Try.underlying22 rfl rfl (H.onum .zero (by omega) (by omega))) H rfl ?_ | refine WG_takeG (i := 12) (listed' := [true, true, true, true, true, true, true, true, true, true, true, true, true, false, false]) rfl (by kernel_rfl) rfl rfl rfl (fun w H => x_load Try.underlying22 rfl rfl (H.onum (.succ .zero) (by omega) (by omega))) H rfl ?_
            refine WG_midG (i := 13) (listed' := [true, true, true, true, true, true, true, true, true, true, true, true, true, true, false]) rfl rfl rfl rfl rfl (by kernel_rfl) rfl rfl ?_
            refine WL_guard_yes rfl rfl rfl ?_
            refine WL_call (vs := [.int .u32 _, .int .u32 _]) Try.func47 rfl rfl rfl (less_u32 _ _ _) ?_
            rintro _ w ⟨rfl, hf⟩
            rw [hc1]
            refine ⟨_, rfl, ?_⟩
            replace H := H.quiet hf
            refine WL_nil ?_
            refine mid_mk H ?_
            refine WG_take (i := 14) (listed' := [true, true, true, true, true, true, true, true, true, true, true, true, true, true, true]) rfl (by kernel_rfl) (fun w H => x_pick (v := .bool _) rfl rfl) H rfl ?_
            refine WG_done (by kernel_rfl) ?_
            refine thenE_normal ?_
            refine WC_ifd rfl (fun h30 => ?_) (fun h30 => ?_)
            · refine WC_skip ?_
              refine thenE_normal ?_
              refine WC_seq ?_
              refine WC_block ?_
              refine WC_drawT (m := 18) (listed := [false, false, false, false, false, false, false, false, false, false, false, false, false, false, false, false, false, false]) (by kernel_rfl) rfl rfl H ?_
              intro w H
              refine WG_take (i := 2) (listed' := [false, false, true, false, false, false, false, false, false, false, false, false, false, false, false, false, false, false]) rfl (by kernel_rfl) (fun w _ => x_move (v := .slice _ _ _) rfl) trivial rfl ?_
              refine WG_take (i := 3) (listed' := [false, false, true, true, false, false, false, false, false, false, false, false, false, false, false, false, false, false]) rfl (by kernel_rfl) (fun w _ => x_move (v := .int .i64 _) rfl) trivial rfl ?_
              refine WG_take (i := 4) (listed' := [false, false, true, true, true, false, false, false, false, false, false, false, false, false, false, false, false, false]) rfl (by kernel_rfl) (fun w _ => x_binop rfl rfl (r_sub_in (i64_in (by omega) (by omega)))) trivial rfl ?_
              refine WG_true (S := fun w => St W (row A c 22 1 xs.length (nums .u32 xs)).fp [row A c 22 1 xs.length (nums .u32 M)] [] w) (n := 15) rfl ?_
              refine WG_take (i := 0) (listed' := [true, false, true, true, true, false, false, false, false, false, false, false, false, false, false, false, false, false]) rfl (by kernel_rfl) (fun w H => x_move (v := .slice _ _ _) rfl) H rfl ?_
              refine WG_take (i := 1) (listed' := [true, true, true, true, true, false, false, false, false, false, false, false, false, false, false, false, false, false]) rfl (by kernel_rfl) (fun w H => x_move (v := .int .i64 _) rfl) H rfl ?_
              refine WG_take (i := 5) (listed' := [true, true, true, true, true, true, false, false, false, false, false, false, false, false, false, false, false, false]) rfl (by kernel_rfl) (fun w H => x_move (v := .slice _ _ _) rfl) H rfl ?_
              refine WG_take (i := 6) (listed' := [true, true, true, true, true, true, true, false, false, false, false, false, false, false, false, false, false, false]) rfl (by kernel_rfl) (fun w H => x_move (v := .int .i64 _) rfl) H rfl ?_
              refine WG_take (i := 7) (listed' := [true, true, true, true, true, true, true, true, false, false, false, false, false, false, false, false, false, false]) rfl (by kernel_rfl) (fun w H => x_binop rfl rfl (r_sub_in (i64_in (by omega) (by omega)))) H rfl ?_
              refine WG_take (i := 8) (listed' := [true, true, true, true, true, true, true, true, true, false, false, false, false, false, false, false, false, false]) rfl (by kernel_rfl) (fun w H => x_indexAddr (s := 1) Try.underlying33 (by kernel_rfl) rfl rfl (by omega) (by omega) (by first | rfl | assumption | exact H.rsomen .zero (by omega) | exact H.rsomen (.succ .zero) (by omega) | exact H.osomen .zero (by omega) | exact H.osomen (.succ .zero) (by omega)) rfl) H rfl ?_
              first | refine WG_take (i := 9) (listed' := [true, true, true, true, true, true, true, true, true, true, false, false, false, false, false, false, false, false]) rfl (by kernel_rfl) (fun w H => x_load (v := .int .u32 _) Try.underlying22 rfl rfl (H.cellAt .zero rfl)) H rfl ?_ | refine WG_take (i := 9) (listed' := [true, true, true, true, true, true, true, true, true, true, false, false, false, false, false, false, false, false]) rfl (by kernel_rfl) (fun w H => x_load (v := .int .u32 _) Try.underlying22 rfl rfl (H.cellAt (.succ .zero) rfl)) H rfl ?_ | refine WG_take (i := 9) (listed' := [true, true, true, true, true, true, true, true, true, true, false, false, false, false, false, false, false, false]) rfl (by kernel_rfl) (fun w H => x_load (v := .int .u32 _) Try.underlying22 rfl rfl (H.cellAt (.succ (.succ .zero)) rfl)) H rfl ?_ | refine WG_take (i := 9) (listed' := [true, true, true, true, true, true, true, true, true, true, false, false, false, false, false, false, false, false]) rfl (by kernel_rfl) (fun w H => x_load (v := .int .u32 _) Try.underlying22 rfl rfl (H.cellAt (.succ (.succ (.succ .zero))) rfl)) H rfl ?_ | refine WG_take (i := 9) (listed' := [true, true, true, true, true, true, true, true, true, true, false, false, false, false, false, false, false, false]) rfl (by kernel_rfl) (fun w H => x_load (v := .int .u32 _) Try.underlying22 rfl rfl (H.cellAt (.succ (.succ (.succ (.succ .zero)))) rfl)) H rfl ?_ | refine WG_take (i := 9) (listed' := [true, true, true, true, true, true, true, true, true, true, false, false, false, false, false, false, false, false]) rfl (by kernel_rfl) (fun w H => x_load Try.underlying22 rfl rfl (H.rnum .zero (by omega) (by omega))) H rfl ?_ | refine WG_take (i := 9) (listed' := [true, true, true, true, true, true, true, true, true, true, false, false, false, false, false, false, false, false]) rfl (by kernel_rfl) (fun w H => x_load Try.underlying22 rfl rfl (H.rnum (.succ .zero) (by omega) (by omega))) H rfl ?_ | refine WG_take (i := 9) (listed' := [true, true, true, true, true, true, true, true, true, true, false, false, false, false, false, false, false, false]) rfl (by kernel_rfl) (fun w H => x_load Try.underlying22 rfl rfl (H.onum .zero (by omega) (by omega))) H rfl ?_ | refine WG_take (i := 9) (listed' := [true, true, true, true, true, true, true, true, true, true, false, false, false, false, false, false, false, false]) rfl (by kernel_rfl) (fun w H => x_load Try.underlying22 rfl rfl (H.onum (.succ .zero) (by omega) (by omega))) H rfl ?_
              refine WG_take (i := 10) (listed' := [true, true, true, true, true, true, true, true, true, true, true, false, false, false, false, false, false, false]) rfl (by kernel_rfl) (fun w H => x_move (v := .slice _ _ _) rfl) H rfl ?_
              refine WG_take (i := 11) (listed' := [true, true, true, true, true, true, true, true, true, true, true, true, false, false, false, false, false, false]) rfl (by kernel_rfl) (fun w H => x_move (v := .int .i64 _) rfl) H rfl ?_
              refine WG_take (i := 12) (listed' := [true, true, true, true, true, true, true, true, true, true, true, true, true, false, false, false, false, false]) rfl (by kernel_rfl) (fun w H => x_indexAddr (s := 1) Try.underlying33 (by kernel_rfl) rfl rfl (by omega) (by omega) (by first | rfl | assumption | exact H.rsomen .zero (by omega) | exact H.rsomen (.succ .zero) (by omega) | exact H.osomen .zero (by omega) | exact H.osomen (.succ .zero) (by omega)) rfl) H rfl ?_
              first | refine WG_take (i := 13) (listed' := [true, true, true, true, true, true, true, true, true, true, true, true, true, true, false, false, false, false]) rfl (by kernel_rfl) (fun w H => x_load (v := .int .u32 _) Try.underlying22 rfl rfl (H.cellAt .zero rfl)) H rfl ?_ | refine WG_take (i := 13) (listed' := [true, true, true, true, true, true, true, true, true, true, true, true, true, true, false, false, false, false]) rfl (by kernel_rfl) (fun w H => x_load (v := .int .u32 _) Try.underlying22 rfl rfl (H.cellAt (.succ .zero) rfl)) H rfl ?_ | refine WG_take (i := 13) (listed' := [true, true, true, true, true, true, true, true, true, true, true, true, true, true, false, false, false, false]) rfl (by kernel_rfl) (fun w H => x_load (v := .int .u32 _) Try.underlying22 rfl rfl (H.cellAt (.succ (.succ .zero)) rfl)) H rfl ?_ | refine WG_take (i := 13) (listed' := [true, true, true, true, true, true, true, true, true, true, true, true, true, true, false, false, false, false]) rfl (by kernel_rfl) (fun w H => x_load (v := .int .u32 _) Try.underlying22 rfl rfl (H.cellAt (.succ (.succ (.succ .zero))) rfl)) H rfl ?_ | refine WG_take (i := 13) (listed' := [true, true, true, true, true, true, true, true, true, true, true, true, true, true, false, false, false, false]) rfl (by kernel_rfl) (fun w H => x_load (v := .int .u32 _) Try.underlying22 rfl rfl (H.cellAt (.succ (.succ (.succ (.succ .zero)))) rfl)) H rfl ?_ | refine WG_take (i := 13) (listed' := [true, true, true, true, true, true, true, true, true, true, true, true, true, true, false, false, false, false]) rfl (by kernel_rfl) (fun w H => x_load Try.underlying22 rfl rfl (H.rnum .zero (by omega) (by omega))) H rfl ?_ | refine WG_take (i := 13) (listed' := [true, true, true, true, true, true, true, true, true, true, true, true, true, true, false, false, false, false]) rfl (by kernel_rfl) (fun w H => x_load Try.underlying22 rfl rfl (H.rnum (.succ .zero) (by omega) (by omega))) H rfl ?_ | refine WG_take (i := 13) (listed' := [true, true, true, true, true, true, true, true, true, true, true, true, true, true, false, false, false, false]) rfl (by kernel_rfl) (fun w H => x_load Try.underlying22 rfl rfl (H.onum .zero (by omega) (by omega))) H rfl ?_ | refine WG_take (i := 13) (listed' := [true, true, true, true, true, true, true, true, true, true, true, true, true, true, false, false, false, false]) rfl (by kernel_rfl) (fun w H => x_load Try.underlying22 rfl rfl (H.onum (.succ .zero) (by omega) (by omega))) H rfl ?_
              refine WG_take (i := 14) (listed' := [true, true, true, true, true, true, true, true, true, true, true, true, true, true, true, false, false, false]) rfl (by kernel_rfl) (fun w H => x_indexAddr (s := 1) Try.underlying33 (by kernel_rfl) rfl rfl (by omega) (by omega) (by first | rfl | assumption | exact H.rsomen .zero (by omega) | exact H.rsomen (.succ .zero) (by omega) | exact H.osomen .zero (by omega) | exact H.osomen (.succ .zero) (by omega)) rfl) H rfl ?_
              refine WG_next (fun w => St W (row A c 22 1 xs.length (nums .u32 xs)).fp [row A c 22 1 xs.length (nums .u32 (M.set (j + 1) (nth M (j : Int))))] [] w) 17 (listed' := [true, true, true, true, true, true, true, true, true, true, true, true, true, true, true, true, false, false]) rfl rfl (by kernel_rfl) rfl ?_
              refine WL_storeR (v := .int .u32 _) (o := j + 1) (n := xs.length) (xs := nums .u32 M) (xs' := nums .u32 (M.set (j + 1) (nth M (j : Int)))) Try.underlying22 rfl rfl rfl rfl (by kernel_rfl) (by rw [Nat.mul_one, Int.toNat_natCast]) H .zero (by rw [nums_length]; omega) (by rw [hc1]; exact nums_set .u32 M (j + 1) _) ?_
              clear H; intro w H
              refine WL_nil ?_
              refine nx_mk ?_
              refine WG_take (i := 16) (listed' := [true, true, true, true, true, true, true, true, true, true, true, true, true, true, true, true, true, false]) rfl (by kernel_rfl) (fun w H => x_indexAddr (s := 1) Try.underlying33 (by kernel_rfl) rfl rfl (by omega) (by omega) (H.osomen .zero (by rw [List.length_set]; omega)) rfl) H rfl ?_
              refine WG_fin (listed' := [true, true, true, true, true, true, true, true, true, true, true, true, true, true, true, true, true, true]) rfl rfl (by kernel_rfl) rfl (by kernel_rfl) ?_
              refine WL_storeR (v := .int .u32 _) (o := j) (n := xs.length) (xs := nums .u32 (M.set (j + 1) (nth M (j : Int)))) (xs' := nums .u32 (swapL M (j + 1) j)) Try.underlying22 rfl rfl rfl rfl (by kernel_rfl) (by rw [hc1, Nat.mul_one, Int.toNat_natCast]) H .zero (by rw [nums_length, List.length_set]; omega) (nums_set .u32 _ j _) ?_
              clear H; intro w H
              refine WL_nil ?_
              refine fin_mk ?_
              refine inBlockE_normal ?_
              refine thenE_normal ?_
              refine WC_region ?_
              refine WL_x (x_move (v := .int .i64 _) rfl) ?_
              refine WL_x (x_binop rfl rfl (r_sub_in (i64_in (by omega) (by omega)))) ?_
              refine WL_x (x_assign (v := .int .i64 _) rfl) ?_
              refine WL_nil ?_
              refine thenE_normal ?_
              exact ⟨(j, swapL M (j + 1) j), ⟨by simp only; omega, by simp only; omega, hWM.swap (j + 1) j (by omega) (by omega) hb, hI.step (by omega) (by omega) (by omega) h30, by simp [upd], rfl, rfl, rfl, rfl, H⟩, by simp only; omega⟩
            · have hs : j + 1 = a ∨ nth M ((j + 1 - 1 : Nat) : Int) ≤ nth M ((j + 1 : Nat) : Int) := .inr (by rw [Nat.add_sub_cancel]; omega)
              refine WC_exit ?_
              refine thenE_exit ?_
              refine thenE_exit ?_
              refine inBlockE_exit ?_
              refine inBlockE_normal ?_
              refine thenE_normal ?_
              exact ⟨M, hWM, hI.done hj2 hj1 hs, rfl, rfl, rfl, rfl, H⟩
          · have hs : j = a ∨ nth M ((j - 1 : Nat) : Int) ≤ nth M (j : Int) := .inl (by omega)
            refine WG_skip (i := 4) (listed' := [true, true, true, true, true, false, false, false, false, false, false, false, false, false, false]) rfl (by kernel_rfl) rfl rfl rfl H rfl ?_
            refine WG_skip (i := 5) (listed' := [true, true, true, true, true, true, false, false, false, false, false, false, false, false, false]) rfl (by kernel_rfl) rfl rfl rfl H rfl ?_
            refine WG_skip (i := 6) (listed' := [true, true, true, true, true, true, true, false, false, false, false, false, false, false, false]) rfl (by kernel_rfl) rfl rfl rfl H rfl ?_
            refine WG_skip (i := 7) (listed' := [true, true, true, true, true, true, true, true, false, false, false, false, false, false, false]) rfl (by kernel_rfl) rfl rfl rfl H rfl ?_
            refine WG_skip (i := 8) (listed' := [true, true, true, true, true, true, true, true, true, false, false, false, false, false, false]) rfl (by kernel_rfl) rfl rfl rfl H rfl ?_
            refine WG_skip (i := 9) (listed' := [true, true, true, true, true, true, true, true, true, true, false, false, false, false, false]) rfl (by kernel_rfl) rfl rfl rfl H rfl ?_
            refine WG_skip (i := 10) (listed' := [true, true, true, true, true, true, true, true, true, true, true, false, false, false, false]) rfl (by kernel_rfl) rfl rfl rfl H rfl ?_
            refine WG_skip (i := 11) (listed' := [true, true, true, true, true, true, true, true, true, true, true, true, false, false, false]) rfl (by kernel_rfl) rfl rfl rfl H rfl ?_
            refine WG_skip (i := 12) (listed' := [true, true, true, true, true, true, true, true, true, true, true, true, true, false, false]) rfl (by kernel_rfl) rfl rfl rfl H rfl ?_
            refine WG_skip (i := 13) (listed' := [true, true, true, true, true, true, true, true, true, true, true, true, true, true, false]) rfl (by kernel_rfl) rfl rfl rfl H rfl ?_
            refine WG_take (i := 14) (listed' := [true, true, true, true, true, true, true, true, true, true, true, true, true, true, true]) rfl (by kernel_rfl) (fun w H => x_pick (v := .bool _) rfl rfl) H rfl ?_
            refine WG_done (by kernel_rfl) ?_
            refine thenE_normal ?_
            refine WC_no rfl ?_
            refine WC_exit ?_
            refine thenE_exit ?_
            refine thenE_exit ?_
            refine inBlockE_exit ?_
            refine inBlockE_normal ?_
            refine thenE_normal ?_
            exact ⟨M, hWM, hI.done hj2 hj1 hs, rfl, rfl, rfl, rfl, H⟩
      · clear H
        rintro M f w ⟨hWM, hsM, h6, h0, h1, h2, H⟩
        rw [← upd_self h6, ← upd_self h0, ← upd_self h1, ← upd_self h2]
        refine WC_region ?_
        refine WL_x (x_move (v := .int .i64 _) rfl) ?_
        refine WL_x (x_binop rfl rfl (r_add_in (i64_in (by omega) (by omega)))) ?_
        refine WL_x (x_assign (v := .int .i64 _) rfl) ?_
        refine WL_nil ?_
        refine thenE_normal ?_
        exact ⟨(i + 1, M), ⟨by simp only; omega, .inl (by simp only; omega), hWM, hsM, by simp [upd], rfl, rfl, rfl, H⟩, by simp only; omega⟩
    · refine WC_exit ?_
      refine thenE_exit ?_
      refine thenE_exit ?_
      refine inBlockE_exit ?_
      refine endn0 Try.results41 ?_
      refine ⟨L, rfl, H.fr, hW, fun p q h1 h2 h3 => hso p q h1 h2 (by omega), H.ok _ List.mem_cons_self⟩

theorem len64_ok (W : World) (x : Int) : Calls Try.prog 51 #[.int .u64 x] W fun e w' => ∃ v, e = .returned (.int .i64 v) ∧ Fr [] W w' := by
  have H : St W [] [] [] W := St.start [] (by simp)
  refine calls_enter (N := 25) Try.func51 rfl Try.ntmps51 rfl ?_
  refine WC_seq ?_
  refine WC_region ?_
  refine WL_x (x_assign (v := (.int .i64 0)) rfl) ?_
  refine WL_nil ?_
  refine thenE_normal ?_
  refine WC_seq ?_
  refine WC_seq ?_
  refine WC_region ?_
  refine WL_x (x_move (v := .int .u64 _) rfl) ?_
  refine WL_x (x_binop rfl rfl (r_geq _ _ _ _)) ?_
  refine WL_nil ?_
  refine thenE_normal ?_
  first | refine WC_ifd rfl (fun h4 => ?_) (fun h4 => ?_) | refine WC_ifn rfl (fun h4 => ?_) (fun h4 => ?_) | refine WC_if rfl (fun h4 => ?_) (fun h4 => ?_)
  · refine WC_seq ?_
    refine WC_region ?_
    refine WL_x (x_move (v := .int .u64 _) rfl) ?_
    refine WL_x (x_binop rfl rfl (r_shr (by omega))) ?_
    refine WL_x (x_assign (v := .int .u64 _) rfl) ?_
    refine WL_nil ?_
    refine thenE_normal ?_
    refine WC_region ?_
    refine WL_x (x_assign (v := (.int .i64 32)) rfl) ?_
    refine WL_nil ?_
    refine thenE_normal ?_
    refine WC_seq ?_
    refine WC_seq ?_
    refine WC_region ?_
    refine WL_x (x_move (v := .int .u64 _) rfl) ?_
    refine WL_x (x_binop rfl rfl (r_geq _ _ _ _)) ?_
    refine WL_nil ?_
    refine thenE_normal ?_
    first | refine WC_ifd rfl (fun h8 => ?_) (fun h8 => ?_) | refine WC_ifn rfl (fun h8 => ?_) (fun h8 => ?_) | refine WC_if rfl (fun h8 => ?_) (fun h8 => ?_)
    · refine WC_seq ?_
      refine WC_region ?_
      refine WL_x (x_move (v := .int .u64 _) rfl) ?_
      refine WL_x (x_binop rfl rfl (r_shr (by omega))) ?_
      refine WL_x (x_assign (v := .int .u64 _) rfl) ?_
      refine WL_nil ?_
      refine thenE_normal ?_
      refine WC_region ?_
      refine WL_x (x_move (v := .int .i64 _) rfl) ?_
      refine WL_x (x_binop rfl rfl (r_add _ _ _ _)) ?_
      refine WL_x (x_assign (v := .int .i64 _) rfl) ?_
      refine WL_nil ?_
      refine thenE_normal ?_
      refine WC_seq ?_
      refine WC_seq ?_
      refine WC_region ?_
      refine WL_x (x_move (v := .int .u64 _) rfl) ?_
      refine WL_x (x_binop rfl rfl (r_geq _ _ _ _)) ?_
      refine WL_nil ?_
      refine thenE_normal ?_
      first | refine WC_ifd rfl (fun h14 => ?_) (fun h14 => ?_) | refine WC_ifn rfl (fun h14 => ?_) (fun h14 => ?_) | refine WC_if rfl (fun h14 => ?_) (fun h14 => ?_)
      · refine WC_seq ?_
        refine WC_region ?_
        refine WL_x (x_move (v := .int .u64 _) rfl) ?_
        refine WL_x (x_binop rfl rfl (r_shr (by omega))) ?_
        refine WL_x (x_assign (v := .int .u64 _) rfl) ?_
        refine WL_nil ?_
        refine thenE_normal ?_
        refine WC_region ?_
        refine WL_x (x_move (v := .int .i64 _) rfl) ?_
        refine WL_x (x_binop rfl rfl (r_add _ _ _ _)) ?_
        refine WL_x (x_assign (v := .int .i64 _) rfl) ?_
        refine WL_nil ?_
        refine thenE_normal ?_
        refine WC_seq ?_
        refine WC_region ?_
        refine WL_x (x_move (v := .int .i64 _) rfl) ?_
        refine WL_x (x_move (v := .int .u64 _) rfl) ?_
        refine WL_x (x_convert Try.underlying86 Try.underlying5 rfl rfl) ?_
        refine WL_x (x_index_str (n := 256) Try.underlying9 rfl rfl (by kernel_rfl) (u8_wrap_in _).1 (u8_wrap_in _).2) ?_
        refine WL_x (x_convert Try.underlying5 Try.underlying3 rfl rfl) ?_
        refine WL_x (x_binop rfl rfl (r_add _ _ _ _)) ?_
        refine WL_x (x_assign (v := .int .i64 _) rfl) ?_
        refine WL_nil ?_
        refine thenE_normal ?_
        refine WC_ret ?_
        refine ends1 (v := .int .i64 _) Try.results51 rfl ?_
        exact ⟨_, rfl, H.fr⟩
      · refine WC_skip ?_
        refine thenE_normal ?_
        refine WC_seq ?_
        refine WC_region ?_
        refine WL_x (x_move (v := .int .i64 _) rfl) ?_
        refine WL_x (x_move (v := .int .u64 _) rfl) ?_
        refine WL_x (x_convert Try.underlying86 Try.underlying5 rfl rfl) ?_
        refine WL_x (x_index_str (n := 256) Try.underlying9 rfl rfl (by kernel_rfl) (u8_wrap_in _).1 (u8_wrap_in _).2) ?_
        refine WL_x (x_convert Try.underlying5 Try.underlying3 rfl rfl) ?_
        refine WL_x (x_binop rfl rfl (r_add _ _ _ _)) ?_
        refine WL_x (x_assign (v := .int .i64 _) rfl) ?_
        refine WL_nil ?_
        refine thenE_normal ?_
        refine WC_ret ?_
        refine ends1 (v := .int .i64 _) Try.results51 rfl ?_
        exact ⟨_, rfl, H.fr⟩
    · refine WC_skip ?_
      refine thenE_normal ?_
      refine WC_seq ?_
      refine WC_seq ?_
      refine WC_region ?_
      refine WL_x (x_move (v := .int .u64 _) rfl) ?_
      refine WL_x (x_binop rfl rfl (r_geq _ _ _ _)) ?_
      refine WL_nil ?_
      refine thenE_normal ?_
      first | refine WC_ifd rfl (fun h14 => ?_) (fun h14 => ?_) | refine WC_ifn rfl (fun h14 => ?_) (fun h14 => ?_) | refine WC_if rfl (fun h14 => ?_) (fun h14 => ?_)
      · refine WC_seq ?_
        refine WC_region ?_
        refine WL_x (x_move (v := .int .u64 _) rfl) ?_
        refine WL_x (x_binop rfl rfl (r_shr (by omega))) ?_
        refine WL_x (x_assign (v := .int .u64 _) rfl) ?_
        refine WL_nil ?_
        refine thenE_normal ?_
        refine WC_region ?_
        refine WL_x (x_move (v := .int .i64 _) rfl) ?_
        refine WL_x (x_binop rfl rfl (r_add _ _ _ _)) ?_
        refine WL_x (x_assign (v := .int .i64 _) rfl) ?_
        refine WL_nil ?_
        refine thenE_normal ?_
        refine WC_seq ?_
        refine WC_region ?_
        refine WL_x (x_move (v := .int .i64 _) rfl) ?_
        refine WL_x (x_move (v := .int .u64 _) rfl) ?_
        refine WL_x (x_convert Try.underlying86 Try.underlying5 rfl rfl) ?_
        refine WL_x (x_index_str (n := 256) Try.underlying9 rfl rfl (by kernel_rfl) (u8_wrap_in _).1 (u8_wrap_in _).2) ?_
        refine WL_x (x_convert Try.underlying5 Try.underlying3 rfl rfl) ?_
        refine WL_x (x_binop rfl rfl (r_add _ _ _ _)) ?_
        refine WL_x (x_assign (v := .int .i64 _) rfl) ?_
        refine WL_nil ?_
        refine thenE_normal ?_
        refine WC_ret ?_
        refine ends1 (v := .int .i64 _) Try.results51 rfl ?_
        exact ⟨_, rfl, H.fr⟩
      · refine WC_skip ?_
        refine thenE_normal ?_
        refine WC_seq ?_
        refine WC_region ?_
        refine WL_x (x_move (v := .int .i64 _) rfl) ?_
        refine WL_x (x_move (v := .int .u64 _) rfl) ?_
        refine WL_x (x_convert Try.underlying86 Try.underlying5 rfl rfl) ?_
        refine WL_x (x_index_str (n := 256) Try.underlying9 rfl rfl (by kernel_rfl) (u8_wrap_in _).1 (u8_wrap_in _).2) ?_
        refine WL_x (x_convert Try.underlying5 Try.underlying3 rfl rfl) ?_
        refine WL_x (x_binop rfl rfl (r_add _ _ _ _)) ?_
        refine WL_x (x_assign (v := .int .i64 _) rfl) ?_
        refine WL_nil ?_
        refine thenE_normal ?_
        refine WC_ret ?_
        refine ends1 (v := .int .i64 _) Try.results51 rfl ?_
        exact ⟨_, rfl, H.fr⟩
  · refine WC_skip ?_
    refine thenE_normal ?_
    refine WC_seq ?_
    refine WC_seq ?_
    refine WC_region ?_
    refine WL_x (x_move (v := .int .u64 _) rfl) ?_
    refine WL_x (x_binop rfl rfl (r_geq _ _ _ _)) ?_
    refine WL_nil ?_
    refine thenE_normal ?_
    first | refine WC_ifd rfl (fun h8 => ?_) (fun h8 => ?_) | refine WC_ifn rfl (fun h8 => ?_) (fun h8 => ?_) | refine WC_if rfl (fun h8 => ?_) (fun h8 => ?_)
    · refine WC_seq ?_
      refine WC_region ?_
      refine WL_x (x_move (v := .int .u64 _) rfl) ?_
      refine WL_x (x_binop rfl rfl (r_shr (by omega))) ?_
      refine WL_x (x_assign (v := .int .u64 _) rfl) ?_
      refine WL_nil ?_
      refine thenE_normal ?_
      refine WC_region ?_
      refine WL_x (x_move (v := .int .i64 _) rfl) ?_
      refine WL_x (x_binop rfl rfl (r_add _ _ _ _)) ?_
      refine WL_x (x_assign (v := .int .i64 _) rfl) ?_
      refine WL_nil ?_
      refine thenE_normal ?_
      refine WC_seq ?_
      refine WC_seq ?_
      refine WC_region ?_
      refine WL_x (x_move (v := .int .u64 _) rfl) ?_
      refine WL_x (x_binop rfl rfl (r_geq _ _ _ _)) ?_
      refine WL_nil ?_
      refine thenE_normal ?_
      first | refine WC_ifd rfl (fun h14 => ?_) (fun h14 => ?_) | refine WC_ifn rfl (fun h14 => ?_) (fun h14 => ?_) | refine WC_if rfl (fun h14 => ?_) (fun h14 => ?_)
      · refine WC_seq ?_
        refine WC_region ?_
        refine WL_x (x_move (v := .int .u64 _) rfl) ?_
        refine WL_x (x_binop rfl rfl (r_shr (by omega))) ?_
        refine WL_x (x_assign (v := .int .u64 _) rfl) ?_
        refine WL_nil ?_
        refine thenE_normal ?_
        refine WC_region ?_
        refine WL_x (x_move (v := .int .i64 _) rfl) ?_
        refine WL_x (x_binop rfl rfl (r_add _ _ _ _)) ?_
        refine WL_x (x_assign (v := .int .i64 _) rfl) ?_
        refine WL_nil ?_
        refine thenE_normal ?_
        refine WC_seq ?_
        refine WC_region ?_
        refine WL_x (x_move (v := .int .i64 _) rfl) ?_
        refine WL_x (x_move (v := .int .u64 _) rfl) ?_
        refine WL_x (x_convert Try.underlying86 Try.underlying5 rfl rfl) ?_
        refine WL_x (x_index_str (n := 256) Try.underlying9 rfl rfl (by kernel_rfl) (u8_wrap_in _).1 (u8_wrap_in _).2) ?_
        refine WL_x (x_convert Try.underlying5 Try.underlying3 rfl rfl) ?_
        refine WL_x (x_binop rfl rfl (r_add _ _ _ _)) ?_
        refine WL_x (x_assign (v := .int .i64 _) rfl) ?_
        refine WL_nil ?_
        refine thenE_normal ?_
        refine WC_ret ?_
        refine ends1 (v := .int .i64 _) Try.results51 rfl ?_
        exact ⟨_, rfl, H.fr⟩
      · refine WC_skip ?_
        refine thenE_normal ?_
        refine WC_seq ?_
        refine WC_region ?_
        refine WL_x (x_move (v := .int .i64 _) rfl) ?_
        refine WL_x (x_move (v := .int .u64 _) rfl) ?_
        refine WL_x (x_convert Try.underlying86 Try.underlying5 rfl rfl) ?_
        refine WL_x (x_index_str (n := 256) Try.underlying9 rfl rfl (by kernel_rfl) (u8_wrap_in _).1 (u8_wrap_in _).2) ?_
        refine WL_x (x_convert Try.underlying5 Try.underlying3 rfl rfl) ?_
        refine WL_x (x_binop rfl rfl (r_add _ _ _ _)) ?_
        refine WL_x (x_assign (v := .int .i64 _) rfl) ?_
        refine WL_nil ?_
        refine thenE_normal ?_
        refine WC_ret ?_
        refine ends1 (v := .int .i64 _) Try.results51 rfl ?_
        exact ⟨_, rfl, H.fr⟩
    · refine WC_skip ?_
      refine thenE_normal ?_
      refine WC_seq ?_
      refine WC_seq ?_
      refine WC_region ?_
      refine WL_x (x_move (v := .int .u64 _) rfl) ?_
      refine WL_x (x_binop rfl rfl (r_geq _ _ _ _)) ?_
      refine WL_nil ?_
      refine thenE_normal ?_
      first | refine WC_ifd rfl (fun h14 => ?_) (fun h14 => ?_) | refine WC_ifn rfl (fun h14 => ?_) (fun h14 => ?_) | refine WC_if rfl (fun h14 => ?_) (fun h14 => ?_)
      · refine WC_seq ?_
        refine WC_region ?_
        refine WL_x (x_move (v := .int .u64 _) rfl) ?_
        refine WL_x (x_binop rfl rfl (r_shr (by omega))) ?_
        refine WL_x (x_assign (v := .int .u64 _) rfl) ?_
        refine WL_nil ?_
        refine thenE_normal ?_
        refine WC_region ?_
        refine WL_x (x_move (v := .int .i64 _) rfl) ?_
        refine WL_x (x_binop rfl rfl (r_add _ _ _ _)) ?_
        refine WL_x (x_assign (v := .int .i64 _) rfl) ?_
        refine WL_nil ?_
        refine thenE_normal ?_
        refine WC_seq ?_
        refine WC_region ?_
        refine WL_x (x_move (v := .int .i64 _) rfl) ?_
        refine WL_x (x_move (v := .int .u64 _) rfl) ?_
        refine WL_x (x_convert Try.underlying86 Try.underlying5 rfl rfl) ?_
        refine WL_x (x_index_str (n := 256) Try.underlying9 rfl rfl (by kernel_rfl) (u8_wrap_in _).1 (u8_wrap_in _).2) ?_
        refine WL_x (x_convert Try.underlying5 Try.underlying3 rfl rfl) ?_
        refine WL_x (x_binop rfl rfl (r_add _ _ _ _)) ?_
        refine WL_x (x_assign (v := .int .i64 _) rfl) ?_
        refine WL_nil ?_
        refine thenE_normal ?_
        refine WC_ret ?_
        refine ends1 (v := .int .i64 _) Try.results51 rfl ?_
        exact ⟨_, rfl, H.fr⟩
      · refine WC_skip ?_
        refine thenE_normal ?_
        refine WC_seq ?_
        refine WC_region ?_
        refine WL_x (x_move (v := .int .i64 _) rfl) ?_
        refine WL_x (x_move (v := .int .u64 _) rfl) ?_
        refine WL_x (x_convert Try.underlying86 Try.underlying5 rfl rfl) ?_
        refine WL_x (x_index_str (n := 256) Try.underlying9 rfl rfl (by kernel_rfl) (u8_wrap_in _).1 (u8_wrap_in _).2) ?_
        refine WL_x (x_convert Try.underlying5 Try.underlying3 rfl rfl) ?_
        refine WL_x (x_binop rfl rfl (r_add _ _ _ _)) ?_
        refine WL_x (x_assign (v := .int .i64 _) rfl) ?_
        refine WL_nil ?_
        refine thenE_normal ?_
        refine WC_ret ?_
        refine ends1 (v := .int .i64 _) Try.results51 rfl ?_
        exact ⟨_, rfl, H.fr⟩

theorem bitsLen_ok (W : World) (x : Int) : Calls Try.prog 36 #[.int .u64 x] W fun e w' => ∃ v, e = .returned (.int .i64 v) ∧ Fr [] W w' := by
  have H : St W [] [] [] W := St.start [] (by simp)
  refine calls_enter (N := 8) Try.func36 rfl Try.ntmps36 rfl ?_
  refine WC_seq ?_
  refine WC_region ?_
  refine WL_x (x_assign (v := (.int .i64 0)) rfl) ?_
  refine WL_nil ?_
  refine thenE_normal ?_
  refine WC_seq ?_
  refine WC_no rfl ?_
  refine WC_skip ?_
  refine thenE_normal ?_
  refine WC_seq ?_
  refine WC_region ?_
  refine WL_x (x_move (v := .int .u64 _) rfl) ?_
  refine WL_call (vs := [.int .u64 _]) Try.func51 rfl rfl rfl (len64_ok _ _) ?_
  rintro _ w ⟨v, rfl, hf⟩
  refine ⟨_, rfl, ?_⟩
  replace H := H.quiet hf
  refine WL_x (x_assign (v := .int .i64 _) rfl) ?_
  refine WL_nil ?_
  refine thenE_normal ?_
  refine WC_ret ?_
  refine ends1 (v := .int .i64 _) Try.results36 rfl ?_
  exact ⟨_, rfl, H.fr⟩

theorem pdqSmall_u32 (W : World) (xs : List Int) (A : Option Addr) (c : Nat) (lim : Int) (h : (row A c 22 1 xs.length (nums .u32 xs)).ok W) (h12 : xs.length ≤ 12) :
    Calls Try.prog 35 #[.slice A xs.length c, .int .i64 0, .int .i64 xs.length, .int .i64 lim] W fun e w' => ∃ ys, e = .returned (.tuple #[]) ∧ Fr (row A c 22 1 xs.length (nums .u32 xs)).fp W w' ∧ Within xs ys 0 xs.length ∧ sortedOn ys 0 xs.length ∧ (row A c 22 1 xs.length (nums .u32 ys)).ok w' := by
  have H : St W (row A c 22 1 xs.length (nums .u32 xs)).fp [row A c 22 1 xs.length (nums .u32 xs)] [] W := St.one h
  refine calls_enter (N := 134) Try.func35 rfl Try.ntmps35 rfl ?_
  refine WC_seq ?_
  refine WC_region ?_
  refine WL_x (x_assign (v := (.bool true)) rfl) ?_
  refine WL_nil ?_
  refine thenE_normal ?_
  refine WC_seq ?_
  refine WC_region ?_
  refine WL_x (x_assign (v := (.bool true)) rfl) ?_
  refine WL_nil ?_
  refine thenE_normal ?_
  refine WC_block ?_
  refine WC_while (fun (_ : Unit) f w' => f 0 = .slice A xs.length c ∧ f 1 = .int .i64 0 ∧ f 2 = .int .i64 xs.length ∧ St W (row A c 22 1 xs.length (nums .u32 xs)).fp [row A c 22 1 xs.length (nums .u32 xs)] [] w') (fun _ => 0) (s0 := ()) ?_ ?_
  · exact ⟨rfl, rfl, rfl, H⟩
  · clear H
    rintro _ f w ⟨h0, h1, h2, H⟩
    rw [← upd_self h0, ← upd_self h1, ← upd_self h2]
    refine WC_block ?_
    refine WC_seq ?_
    refine WC_region ?_
    refine WL_x (x_move (v := .int .i64 _) rfl) ?_
    refine WL_x (x_move (v := .int .i64 _) rfl) ?_
    refine WL_x (x_binop rfl rfl (r_sub_in (i64_in (by omega) (by omega)))) ?_
    refine WL_x (x_assign (v := .int .i64 _) rfl) ?_
    refine WL_nil ?_
    refine thenE_normal ?_
    refine WC_seq ?_
    refine WC_seq ?_
    refine WC_region ?_
    refine WL_x (x_move (v := .int .i64 _) rfl) ?_
    refine WL_x (x_binop rfl rfl (r_leq _ _ _ _)) ?_
    refine WL_nil ?_
    refine thenE_normal ?_
    refine WC_ifd rfl (fun h23 => ?_) (fun h23 => ?_)
    · refine WC_seq ?_
      refine WC_region ?_
      refine WL_x (x_move (v := .slice _ _ _) rfl) ?_
      refine WL_x (x_move (v := .int .i64 _) rfl) ?_
      refine WL_x (x_move (v := .int .i64 _) rfl) ?_
      refine WL_call (vs := [.slice _ _ _, .int .i64 _, .int .i64 _]) Try.func41 rfl rfl rfl (insertion_u32 _ xs A c 0 xs.length (H.ok _ List.mem_cons_self) (Nat.le_refl _) (Nat.zero_le _) (by omega)) ?_
      rintro _ w ⟨ys, rfl, hf, hW, hso, hok⟩
      refine ⟨_, rfl, ?_⟩
      replace H := H.turn .zero hf (fun _ h => .inl h) hok (fun _ h => .inl h)
      refine WL_nil ?_
      refine thenE_normal ?_
      refine WC_ret ?_
      refine thenE_ret ?_
      refine inBlockE_ret ?_
      refine thenE_ret ?_
      refine inBlockE_ret ?_
      refine ends0 Try.results35 ?_
      exact ⟨ys, rfl, H.fr, hW, hso, H.ok _ List.mem_cons_self⟩
    · exact absurd (by omega) h23

theorem sortSmall_u32 (W : World) (xs : List Int) (A : Option Addr) (c : Nat) (h : (row A c 22 1 xs.length (nums .u32 xs)).ok W) (h12 : xs.length ≤ 12) :
    Calls Try.prog 29 #[.slice A xs.length c] W fun e w' => ∃ ys, e = .returned (.tuple #[]) ∧ Fr (row A c 22 1 xs.length (nums .u32 xs)).fp W w' ∧ Within xs ys 0 xs.length ∧ sortedOn ys 0 xs.length ∧ (row A c 22 1 xs.length (nums .u32 ys)).ok w' := by
  have H : St W (row A c 22 1 xs.length (nums .u32 xs)).fp [row A c 22 1 xs.length (nums .u32 xs)] [] W := St.one h
  refine calls_enter (N := 11) Try.func29 rfl Try.ntmps29 rfl ?_
  refine WC_seq ?_
  refine WC_region ?_
  refine WL_x (x_move (v := .slice _ _ _) rfl) ?_
  refine WL_x (x_len Try.underlying33 rfl) ?_
  refine WL_x (x_assign (v := .int .i64 _) rfl) ?_
  refine WL_nil ?_
  refine thenE_normal ?_
  refine WC_region ?_
  refine WL_x (x_move (v := .slice _ _ _) rfl) ?_
  refine WL_x (x_move (v := .int .i64 _) rfl) ?_
  refine WL_x (x_move (v := .int .i64 _) rfl) ?_
  refine WL_x (x_convert Try.underlying3 Try.underlying93 rfl (u64_in (by omega) (by omega))) ?_
  refine WL_call (vs := [.int .u64 _]) Try.func36 rfl rfl rfl (bitsLen_ok _ _) ?_
  rintro _ w ⟨v, rfl, hf⟩
  refine ⟨_, rfl, ?_⟩
  replace H := H.quiet hf
  refine WL_call (vs := [.slice _ _ _, (.int .i64 0), .int .i64 _, .int .i64 _]) Try.func35 rfl rfl rfl (pdqSmall_u32 _ xs A c _ (H.ok _ List.mem_cons_self) h12) ?_
  rintro _ w ⟨ys, rfl, hf, hW, hso, hok⟩
  refine ⟨_, rfl, ?_⟩
  replace H := H.turn .zero hf (fun _ h => .inl h) hok (fun _ h => .inl h)
  refine WL_nil ?_
  refine endn0 Try.results29 ?_
  exact ⟨ys, rfl, H.fr, hW, hso, H.ok _ List.mem_cons_self⟩
end Go.Proofs.Ytecdgmdkepiopaa
