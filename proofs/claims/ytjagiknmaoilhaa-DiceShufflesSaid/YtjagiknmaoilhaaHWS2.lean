import Derived.Test.YtjagiknmaoilhaaHWMap
import Derived.Test.YtjagiknmaoilhaaHWOpen
import Derived.Test.YtjagiknmaoilhaaHWSort2
import Derived.Test.YtjagiknmaoilhaaProg
import Derived.KernelRfl
set_option linter.unusedSimpArgs false
set_option linter.unusedVariables false
set_option linter.unusedSectionVars false
namespace Go.Proofs.Ytjagiknmaoilhaa
open Go Go.HW Go.RowKit
attribute [local irreducible] WL WC WG wpList Code.wp

theorem isNaN_i32 (W : World) (x : Int) : Calls Try.prog 33 #[.int .i32 x] W fun e w' => e = .returned (.bool false) ∧ Fr [] W w' := by
  have H : St W [] [] [] W := St.start [] (by simp)
  refine calls_enter (N := 6) Try.func33 rfl Try.ntmps33 rfl ?_
  refine WC_seq ?_
  refine WC_region ?_
  refine WL_x (x_assign (v := (.bool false)) rfl) ?_
  refine WL_nil ?_
  refine thenE_normal ?_
  refine WC_seq ?_
  refine WC_region ?_
  refine WL_x (x_move (v := .int .i32 _) rfl) ?_
  refine WL_x (x_move (v := .int .i32 _) rfl) ?_
  refine WL_x (x_binop rfl rfl (r_neq _ _ _ _)) ?_
  refine WL_x (x_assign (v := .bool _) rfl) ?_
  refine WL_nil ?_
  refine thenE_normal ?_
  refine WC_ret ?_
  refine ends1 (v := .bool _) Try.results33 rfl ?_
  exact ⟨by simp, H.fr⟩

theorem less_i32 (W : World) (x y : Int) : Calls Try.prog 23 #[.int .i32 x, .int .i32 y] W fun e w' => e = .returned (.bool (decide (x < y))) ∧ Fr [] W w' := by
  have H : St W [] [] [] W := St.start [] (by simp)
  refine calls_enter (N := 17) Try.func23 rfl Try.ntmps23 rfl ?_
  refine WC_seq ?_
  refine WC_region ?_
  refine WL_x (x_assign (v := (.bool false)) rfl) ?_
  refine WL_nil ?_
  refine thenE_normal ?_
  refine WC_seq ?_
  refine WC_region ?_
  refine WL_x (x_move (v := .int .i32 _) rfl) ?_
  refine WL_call (vs := [.int .i32 _]) Try.func33 rfl rfl rfl (isNaN_i32 _ _) ?_
  rintro _ w ⟨rfl, hf⟩
  refine ⟨_, rfl, ?_⟩
  replace H := H.quiet hf
  refine WL_x (x_move (v := .bool _) rfl) ?_
  refine WL_guard_no rfl rfl rfl ?_
  refine WL_guard_no rfl rfl rfl ?_
  refine WL_guard_no rfl rfl rfl ?_
  refine WL_x (x_pick (v := .bool _) rfl rfl) ?_
  refine WL_x (x_move (v := .bool _) rfl) ?_
  refine WL_guard_yes rfl rfl rfl ?_
  refine WL_x (x_move (v := .int .i32 _) rfl) ?_
  refine WL_guard_yes rfl rfl rfl ?_
  refine WL_x (x_move (v := .int .i32 _) rfl) ?_
  refine WL_guard_yes rfl rfl rfl ?_
  refine WL_x (x_binop rfl rfl (r_lss _ _ _ _)) ?_
  refine WL_x (x_pick (v := .bool _) rfl rfl) ?_
  refine WL_x (x_assign (v := .bool _) rfl) ?_
  refine WL_nil ?_
  refine thenE_normal ?_
  refine WC_ret ?_
  refine ends1 (v := .bool _) Try.results23 rfl ?_
  exact ⟨rfl, H.fr⟩

set_option maxHeartbeats 1000000 in
theorem insS_i32 (W : World) (d : Array Int) (A : Option Addr) (c n : Nat) (h : (row A c 21 1 n (nums .i32 d.toList)).ok W) (hM : d.toList.length = n) (hsz : n ≤ 2305843009213693952) (a b : Nat) (hab : a ≤ b) (hb : b ≤ n) :
    Calls Try.prog 17 #[.slice A n c, .int .i64 a, .int .i64 b] W fun e w' => e = .returned (.tuple #[]) ∧ Fr (row A c 21 1 n (nums .i32 d.toList)).fp W w' ∧ (row A c 21 1 n (nums .i32 (Go.Sort.insertionSort Go.Sort.ltInt d a b).toList)).ok w' := by
  have hlen0 := (owns_len h.r)
  unfold maxLen at hlen0
  have H : St W (row A c 21 1 n (nums .i32 d.toList)).fp [row A c 21 1 n (nums .i32 d.toList)] [] W := St.one h
  refine calls_enter (N := 49) Try.func17 rfl Try.ntmps17 rfl ?_
  refine WC_seq ?_
  refine WC_region ?_
  refine WL_x (x_move (v := .int .i64 _) rfl) ?_
  refine WL_x (x_binop rfl rfl (r_add_in (i64_in (by omega) (by omega)))) ?_
  refine WL_x (x_assign (v := .int .i64 _) rfl) ?_
  refine WL_nil ?_
  refine thenE_normal ?_
  refine WC_block ?_
  refine WC_while (fun (s : Nat × Array Int) f w' => a + 1 ≤ s.1 ∧ (s.1 ≤ b ∨ s.1 = a + 1) ∧ s.2.toList.length = n ∧ Go.Sort.insOuter Go.Sort.ltInt a b s.1 s.2 = Go.Sort.insOuter Go.Sort.ltInt a b (a + 1) d ∧ f 6 = .int .i64 s.1 ∧ f 0 = .slice A n c ∧ f 1 = .int .i64 a ∧ f 2 = .int .i64 b ∧ St W (row A c 21 1 n (nums .i32 d.toList)).fp [row A c 21 1 n (nums .i32 s.2.toList)] [] w') (fun s => b - s.1) (s0 := (a + 1, d)) ?_ ?_
  · exact ⟨Nat.le_refl _, .inr rfl, hM, rfl, (congrArg (Value.int .i64) (by first | omega | rfl | (simp only; omega))), rfl, rfl, rfl, H⟩
  · clear H hM
    rintro ⟨i, M⟩ f w ⟨hi1, hi2, hM, hO, h6, h0, h1, h2, H⟩
    simp only at hi1 hi2 hM hO h6 h0 h1 h2 H
    rw [← upd_self h6, ← upd_self h0, ← upd_self h1, ← upd_self h2]
    refine WC_seq ?_
    refine WC_seq ?_
    refine WC_region ?_
    refine WL_x (x_move (v := .int .i64 _) rfl) ?_
    refine WL_x (x_move (v := .int .i64 _) rfl) ?_
    refine WL_x (x_binop rfl rfl (r_lss _ _ _ _)) ?_
    refine WL_nil ?_
    refine thenE_normal ?_
    refine WC_ifd rfl (fun h12 => ?_) (fun h12 => ?_)
    · have hib : i < b := by omega
      refine WC_skip ?_
      refine thenE_normal ?_
      refine WC_cut (fun (M2 : Array Int) f w' => M2.toList.length = n ∧ M2 = Go.Sort.insInner Go.Sort.ltInt a i M ∧ f 6 = .int .i64 i ∧ f 0 = .slice A n c ∧ f 1 = .int .i64 a ∧ f 2 = .int .i64 b ∧ St W (row A c 21 1 n (nums .i32 d.toList)).fp [row A c 21 1 n (nums .i32 M2.toList)] [] w') ?_ ?_
      · refine WC_block ?_
        refine WC_seq ?_
        refine WC_region ?_
        refine WL_x (x_move (v := .int .i64 _) rfl) ?_
        refine WL_x (x_assign (v := .int .i64 _) rfl) ?_
        refine WL_nil ?_
        refine thenE_normal ?_
        refine WC_block ?_
        refine WC_while (fun (s : Nat × Array Int) f w' => a ≤ s.1 ∧ s.1 ≤ i ∧ s.2.toList.length = n ∧ Go.Sort.insInner Go.Sort.ltInt a s.1 s.2 = Go.Sort.insInner Go.Sort.ltInt a i M ∧ f 7 = .int .i64 s.1 ∧ f 6 = .int .i64 i ∧ f 0 = .slice A n c ∧ f 1 = .int .i64 a ∧ f 2 = .int .i64 b ∧ St W (row A c 21 1 n (nums .i32 d.toList)).fp [row A c 21 1 n (nums .i32 s.2.toList)] [] w') (fun s => s.1) (s0 := (i, M)) ?_ ?_
        · exact ⟨by simp only; omega, Nat.le_refl _, hM, rfl, rfl, rfl, rfl, rfl, rfl, H⟩
        · clear H hM
          rintro ⟨j, K⟩ f w ⟨hj1, hj2, hM, hI, h7, h6, h0, h1, h2, H⟩
          simp only at hj1 hj2 hM hI h7 h6 h0 h1 h2 H
          rw [← upd_self h7, ← upd_self h6, ← upd_self h0, ← upd_self h1, ← upd_self h2]
          refine WC_seq ?_
          refine WC_seq ?_
          refine WC_drawH (m := 15) (listed := [false, false, false, false, false, false, false, false, false, false, false, false, false, false, false]) 15 (by kernel_rfl) rfl rfl H ?_
          intro w H
          refine WG_take (i := 0) (listed' := [true, false, false, false, false, false, false, false, false, false, false, false, false, false, false]) rfl (by kernel_rfl) (fun w H => x_move (v := .int .i64 _) rfl) H rfl ?_
          refine WG_take (i := 1) (listed' := [true, true, false, false, false, false, false, false, false, false, false, false, false, false, false]) rfl (by kernel_rfl) (fun w H => x_move (v := .int .i64 _) rfl) H rfl ?_
          refine WG_take (i := 2) (listed' := [true, true, true, false, false, false, false, false, false, false, false, false, false, false, false]) rfl (by kernel_rfl) (fun w H => x_binop rfl rfl (r_gtr _ _ _ _)) H rfl ?_
          refine WG_take (i := 3) (listed' := [true, true, true, true, false, false, false, false, false, false, false, false, false, false, false]) rfl (by kernel_rfl) (fun w H => x_move (v := .bool _) rfl) H rfl ?_
          first | refine WG_cased (t := 19) rfl (fun h19 => ?_) (fun h19 => ?_) | refine WG_casen (t := 19) rfl (fun h19 => ?_) (fun h19 => ?_) | refine WG_case (t := 19) rfl (fun h19 => ?_) (fun h19 => ?_)
          · obtain ⟨j, rfl⟩ : ∃ j0, j = j0 + 1 := ⟨j - 1, by omega⟩
            refine WG_takeG (i := 4) (listed' := [true, true, true, true, true, false, false, false, false, false, false, false, false, false, false]) rfl (by kernel_rfl) rfl rfl rfl (fun w H => x_move (v := .slice _ _ _) rfl) H rfl ?_
            refine WG_takeG (i := 5) (listed' := [true, true, true, true, true, true, false, false, false, false, false, false, false, false, false]) rfl (by kernel_rfl) rfl rfl rfl (fun w H => x_move (v := .int .i64 _) rfl) H rfl ?_
            refine WG_takeG (i := 6) (listed' := [true, true, true, true, true, true, true, false, false, false, false, false, false, false, false]) rfl (by kernel_rfl) rfl rfl rfl (fun w H => x_indexAddr (s := 1) Try.underlying23 (by kernel_rfl) rfl rfl (by omega) (by omega) (by first | rfl | assumption | exact H.rsomen .zero (by omega) | exact H.rsomen (.succ .zero) (by omega) | exact H.rsomen (.succ (.succ .zero)) (by omega) | exact H.osomen .zero (by omega) | exact H.osomen (.succ .zero) (by omega) | exact H.osomen (.succ (.succ .zero)) (by omega)) rfl) H rfl ?_
            first | refine WG_takeG (i := 7) (listed' := [true, true, true, true, true, true, true, true, false, false, false, false, false, false, false]) rfl (by kernel_rfl) rfl rfl rfl (fun w H => x_load (v := .int .i32 _) Try.underlying21 rfl rfl (H.cellAt .zero rfl)) H rfl ?_ | refine WG_takeG (i := 7) (listed' := [true, true, true, true, true, true, true, true, false, false, false, false, false, false, false]) rfl (by kernel_rfl) rfl rfl rfl (fun w H => x_load (v := .int .i32 _) Try.underlying21 rfl rfl (H.cellAt (.succ .zero) rfl)) H rfl ?_ | refine WG_takeG (i := 7) (listed' := [true, true, true, true, true, true, true, true, false, false, false, false, false, false, false]) rfl (by kernel_rfl) rfl rfl rfl (fun w H => x_load (v := .int .i32 _) Try.underlying21 rfl rfl (H.cellAt (.succ (.succ .zero)) rfl)) H rfl ?_ | refine WG_takeG (i := 7) (listed' := [true, true, true, true, true, true, true, true, false, false, false, false, false, false, false]) rfl (by kernel_rfl) rfl rfl rfl (fun w H => x_load (v := .int .i32 _) Try.underlying21 rfl rfl (H.cellAt (.succ (.succ (.succ .zero))) rfl)) H rfl ?_ | refine WG_takeG (i := 7) (listed' := [true, true, true, true, true, true, true, true, false, false, false, false, false, false, false]) rfl (by kernel_rfl) rfl rfl rfl (fun w H => x_load (v := .int .i32 _) Try.underlying21 rfl rfl (H.cellAt (.succ (.succ (.succ (.succ .zero)))) rfl)) H rfl ?_ | refine WG_takeG (i := 7) (listed' := [true, true, true, true, true, true, true, true, false, false, false, false, false, false, false]) rfl (by kernel_rfl) rfl rfl rfl (fun w H => x_load Try.underlying21 rfl rfl (H.rnum .zero (by omega) (by omega))) H rfl ?_ | refine WG_takeG (i := 7) (listed' := [true, true, true, true, true, true, true, true, false, false, false, false, false, false, false]) rfl (by kernel_rfl) rfl rfl rfl (fun w H => x_load Try.underlying21 rfl rfl (H.rnum (.succ .zero) (by omega) (by omega))) H rfl ?_ | refine WG_takeG (i := 7) (listed' := [true, true, true, true, true, true, true, true, false, false, false, false, false, false, false]) rfl (by kernel_rfl) rfl rfl rfl (fun w H => x_load Try.underlying21 rfl rfl (H.rnum (.succ (.succ .zero)) (by omega) (by omega))) H rfl ?_ | refine WG_takeG (i := 7) (listed' := [true, true, true, true, true, true, true, true, false, false, false, false, false, false, false]) rfl (by kernel_rfl) rfl rfl rfl (fun w H => x_load Try.underlying21 rfl rfl (H.onum .zero (by omega) (by omega))) H rfl ?_ | refine WG_takeG (i := 7) (listed' := [true, true, true, true, true, true, true, true, false, false, false, false, false, false, false]) rfl (by kernel_rfl) rfl rfl rfl (fun w H => x_load Try.underlying21 rfl rfl (H.onum (.succ .zero) (by omega) (by omega))) H rfl ?_ | refine WG_takeG (i := 7) (listed' := [true, true, true, true, true, true, true, true, false, false, false, false, false, false, false]) rfl (by kernel_rfl) rfl rfl rfl (fun w H => x_load Try.underlying21 rfl rfl (H.onum (.succ (.succ .zero)) (by omega) (by omega))) H rfl ?_
            refine WG_takeG (i := 8) (listed' := [true, true, true, true, true, true, true, true, true, false, false, false, false, false, false]) rfl (by kernel_rfl) rfl rfl rfl (fun w H => x_move (v := .slice _ _ _) rfl) H rfl ?_
            refine WG_takeG (i := 9) (listed' := [true, true, true, true, true, true, true, true, true, true, false, false, false, false, false]) rfl (by kernel_rfl) rfl rfl rfl (fun w H => x_move (v := .int .i64 _) rfl) H rfl ?_
            refine WG_takeG (i := 10) (listed' := [true, true, true, true, true, true, true, true, true, true, true, false, false, false, false]) rfl (by kernel_rfl) rfl rfl rfl (fun w H => x_binop rfl rfl (r_sub_in (i64_in (by omega) (by omega)))) H rfl ?_
            refine WG_takeG (i := 11) (listed' := [true, true, true, true, true, true, true, true, true, true, true, true, false, false, false]) rfl (by kernel_rfl) rfl rfl rfl (fun w H => x_indexAddr (s := 1) Try.underlying23 (by kernel_rfl) rfl rfl (by omega) (by omega) (by first | rfl | assumption | exact H.rsomen .zero (by omega) | exact H.rsomen (.succ .zero) (by omega) | exact H.rsomen (.succ (.succ .zero)) (by omega) | exact H.osomen .zero (by omega) | exact H.osomen (.succ .zero) (by omega) | exact H.osomen (.succ (.succ .zero)) (by omega)) rfl) H rfl ?_
            first | refine WG_takeG (i := 12) (listed' := [true, true, true, true, true, true, true, true, true, true, true, true, true, false, false]) rfl (by kernel_rfl) rfl rfl rfl (fun w H => x_load (v := .int .i32 _) Try.underlying21 rfl rfl (H.cellAt .zero rfl)) H rfl ?_ | refine WG_takeG (i := 12) (listed' := [true, true, true, true, true, true, true, true, true, true, true, true, true, false, false]) rfl (by kernel_rfl) rfl rfl rfl (fun w H => x_load (v := .int .i32 _) Try.underlying21 rfl rfl (H.cellAt (.succ .zero) rfl)) H rfl ?_ | refine WG_takeG (i := 12) (listed' := [true, true, true, true, true, true, true, true, true, true, true, true, true, false, false]) rfl (by kernel_rfl) rfl rfl rfl (fun w H => x_load (v := .int .i32 _) Try.underlying21 rfl rfl (H.cellAt (.succ (.succ .zero)) rfl)) H rfl ?_ | refine WG_takeG (i := 12) (listed' := [true, true, true, true, true, true, true, true, true, true, true, true, true, false, false]) rfl (by kernel_rfl) rfl rfl rfl (fun w H => x_load (v := .int .i32 _) Try.underlying21 rfl rfl (H.cellAt (.succ (.succ (.succ .zero))) rfl)) H rfl ?_ | refine WG_takeG (i := 12) (listed' := [true, true, true, true, true, true, true, true, true, true, true, true, true, false, false]) rfl (by kernel_rfl) rfl rfl rfl (fun w H => x_load (v := .int .i32 _) Try.underlying21 rfl rfl (H.cellAt (.succ (.succ (.succ (.succ .zero)))) rfl)) H rfl ?_ | refine WG_takeG (i := 12) (listed' := [true, true, true, true, true, true, true, true, true, true, true, true, true, false, false]) rfl (by kernel_rfl) rfl rfl rfl (fun w H => x_load Try.underlying21 rfl rfl (H.rnum .zero (by omega) (by omega))) H rfl ?_ | refine WG_takeG (i := 12) (listed' := [true, true, true, true, true, true, true, true, true, true, true, true, true, false, false]) rfl (by kernel_rfl) rfl rfl rfl (fun w H => x_load Try.underlying21 rfl rfl (H.rnum (.succ .zero) (by omega) (by omega))) H rfl ?_ | refine WG_takeG (i := 12) (listed' := [true, true, true, true, true, true, true, true, true, true, true, true, true, false, false]) rfl (by kernel_rfl) rfl rfl rfl (fun w H => x_load Try.underlying21 rfl rfl (H.rnum (.succ (.succ .zero)) (by omega) (by omega))) H rfl ?_ | refine WG_takeG (i := 12) (listed' := [true, true, true, true, true, true, true, true, true, true, true, true, true, false, false]) rfl (by kernel_rfl) rfl rfl rfl (fun w H => x_load Try.underlying21 rfl rfl (H.onum .zero (by omega) (by omega))) H rfl ?_ | refine WG_takeG (i := 12) (listed' := [true, true, true, true, true, true, true, true, true, true, true, true, true, false, false]) rfl (by kernel_rfl) rfl rfl rfl (fun w H => x_load Try.underlying21 rfl rfl (H.onum (.succ .zero) (by omega) (by omega))) H rfl ?_ | refine WG_takeG (i := 12) (listed' := [true, true, true, true, true, true, true, true, true, true, true, true, true, false, false]) rfl (by kernel_rfl) rfl rfl rfl (fun w H => x_load Try.underlying21 rfl rfl (H.onum (.succ (.succ .zero)) (by omega) (by omega))) H rfl ?_
            refine WG_midG (i := 13) (listed' := [true, true, true, true, true, true, true, true, true, true, true, true, true, true, false]) rfl rfl rfl rfl rfl (by kernel_rfl) rfl rfl ?_
            refine WL_guard_yes rfl rfl rfl ?_
            refine WL_call (vs := [.int .i32 _, .int .i32 _]) Try.func23 rfl rfl rfl (less_i32 _ _ _) ?_
            rintro _ w ⟨rfl, hf⟩
            refine ⟨_, rfl, ?_⟩
            replace H := H.quiet hf
            refine WL_nil ?_
            refine mid_mk H ?_
            refine WG_take (i := 14) (listed' := [true, true, true, true, true, true, true, true, true, true, true, true, true, true, true]) rfl (by kernel_rfl) (fun w H => x_pick (v := .bool _) rfl rfl) H rfl ?_
            refine WG_done (by kernel_rfl) ?_
            refine thenE_normal ?_
            refine WC_ifd rfl (fun h30 => ?_) (fun h30 => ?_)
            · have hK := insInner_go (a := a) (d := K) (j := j) (by omega) (lt_yes h30 (by omega) (by omega))
              refine WC_skip ?_
              refine thenE_normal ?_
              refine WC_seq ?_
              refine WC_block ?_
              refine WC_drawT (m := 18) (listed := [false, false, false, false, false, false, false, false, false, false, false, false, false, false, false, false, false, false]) (by kernel_rfl) rfl rfl H ?_
              intro w H
              refine WG_take (i := 2) (listed' := [false, false, true, false, false, false, false, false, false, false, false, false, false, false, false, false, false, false]) rfl (by kernel_rfl) (fun w _ => x_move (v := .slice _ _ _) rfl) trivial rfl ?_
              refine WG_take (i := 3) (listed' := [false, false, true, true, false, false, false, false, false, false, false, false, false, false, false, false, false, false]) rfl (by kernel_rfl) (fun w _ => x_move (v := .int .i64 _) rfl) trivial rfl ?_
              refine WG_take (i := 4) (listed' := [false, false, true, true, true, false, false, false, false, false, false, false, false, false, false, false, false, false]) rfl (by kernel_rfl) (fun w _ => x_binop rfl rfl (r_sub_in (i64_in (by omega) (by omega)))) trivial rfl ?_
              refine WG_true (S := fun w => St W (row A c 21 1 n (nums .i32 d.toList)).fp [row A c 21 1 n (nums .i32 K.toList)] [] w) (n := 15) rfl ?_
              refine WG_take (i := 0) (listed' := [true, false, true, true, true, false, false, false, false, false, false, false, false, false, false, false, false, false]) rfl (by kernel_rfl) (fun w H => x_move (v := .slice _ _ _) rfl) H rfl ?_
              refine WG_take (i := 1) (listed' := [true, true, true, true, true, false, false, false, false, false, false, false, false, false, false, false, false, false]) rfl (by kernel_rfl) (fun w H => x_move (v := .int .i64 _) rfl) H rfl ?_
              refine WG_take (i := 5) (listed' := [true, true, true, true, true, true, false, false, false, false, false, false, false, false, false, false, false, false]) rfl (by kernel_rfl) (fun w H => x_move (v := .slice _ _ _) rfl) H rfl ?_
              refine WG_take (i := 6) (listed' := [true, true, true, true, true, true, true, false, false, false, false, false, false, false, false, false, false, false]) rfl (by kernel_rfl) (fun w H => x_move (v := .int .i64 _) rfl) H rfl ?_
              refine WG_take (i := 7) (listed' := [true, true, true, true, true, true, true, true, false, false, false, false, false, false, false, false, false, false]) rfl (by kernel_rfl) (fun w H => x_binop rfl rfl (r_sub_in (i64_in (by omega) (by omega)))) H rfl ?_
              refine WG_take (i := 8) (listed' := [true, true, true, true, true, true, true, true, true, false, false, false, false, false, false, false, false, false]) rfl (by kernel_rfl) (fun w H => x_indexAddr (s := 1) Try.underlying23 (by kernel_rfl) rfl rfl (by omega) (by omega) (by first | rfl | assumption | exact H.rsomen .zero (by omega) | exact H.rsomen (.succ .zero) (by omega) | exact H.rsomen (.succ (.succ .zero)) (by omega) | exact H.osomen .zero (by omega) | exact H.osomen (.succ .zero) (by omega) | exact H.osomen (.succ (.succ .zero)) (by omega)) rfl) H rfl ?_
              first | refine WG_take (i := 9) (listed' := [true, true, true, true, true, true, true, true, true, true, false, false, false, false, false, false, false, false]) rfl (by kernel_rfl) (fun w H => x_load (v := .int .i32 _) Try.underlying21 rfl rfl (H.cellAt .zero rfl)) H rfl ?_ | refine WG_take (i := 9) (listed' := [true, true, true, true, true, true, true, true, true, true, false, false, false, false, false, false, false, false]) rfl (by kernel_rfl) (fun w H => x_load (v := .int .i32 _) Try.underlying21 rfl rfl (H.cellAt (.succ .zero) rfl)) H rfl ?_ | refine WG_take (i := 9) (listed' := [true, true, true, true, true, true, true, true, true, true, false, false, false, false, false, false, false, false]) rfl (by kernel_rfl) (fun w H => x_load (v := .int .i32 _) Try.underlying21 rfl rfl (H.cellAt (.succ (.succ .zero)) rfl)) H rfl ?_ | refine WG_take (i := 9) (listed' := [true, true, true, true, true, true, true, true, true, true, false, false, false, false, false, false, false, false]) rfl (by kernel_rfl) (fun w H => x_load (v := .int .i32 _) Try.underlying21 rfl rfl (H.cellAt (.succ (.succ (.succ .zero))) rfl)) H rfl ?_ | refine WG_take (i := 9) (listed' := [true, true, true, true, true, true, true, true, true, true, false, false, false, false, false, false, false, false]) rfl (by kernel_rfl) (fun w H => x_load (v := .int .i32 _) Try.underlying21 rfl rfl (H.cellAt (.succ (.succ (.succ (.succ .zero)))) rfl)) H rfl ?_ | refine WG_take (i := 9) (listed' := [true, true, true, true, true, true, true, true, true, true, false, false, false, false, false, false, false, false]) rfl (by kernel_rfl) (fun w H => x_load Try.underlying21 rfl rfl (H.rnum .zero (by omega) (by omega))) H rfl ?_ | refine WG_take (i := 9) (listed' := [true, true, true, true, true, true, true, true, true, true, false, false, false, false, false, false, false, false]) rfl (by kernel_rfl) (fun w H => x_load Try.underlying21 rfl rfl (H.rnum (.succ .zero) (by omega) (by omega))) H rfl ?_ | refine WG_take (i := 9) (listed' := [true, true, true, true, true, true, true, true, true, true, false, false, false, false, false, false, false, false]) rfl (by kernel_rfl) (fun w H => x_load Try.underlying21 rfl rfl (H.rnum (.succ (.succ .zero)) (by omega) (by omega))) H rfl ?_ | refine WG_take (i := 9) (listed' := [true, true, true, true, true, true, true, true, true, true, false, false, false, false, false, false, false, false]) rfl (by kernel_rfl) (fun w H => x_load Try.underlying21 rfl rfl (H.onum .zero (by omega) (by omega))) H rfl ?_ | refine WG_take (i := 9) (listed' := [true, true, true, true, true, true, true, true, true, true, false, false, false, false, false, false, false, false]) rfl (by kernel_rfl) (fun w H => x_load Try.underlying21 rfl rfl (H.onum (.succ .zero) (by omega) (by omega))) H rfl ?_ | refine WG_take (i := 9) (listed' := [true, true, true, true, true, true, true, true, true, true, false, false, false, false, false, false, false, false]) rfl (by kernel_rfl) (fun w H => x_load Try.underlying21 rfl rfl (H.onum (.succ (.succ .zero)) (by omega) (by omega))) H rfl ?_
              refine WG_take (i := 10) (listed' := [true, true, true, true, true, true, true, true, true, true, true, false, false, false, false, false, false, false]) rfl (by kernel_rfl) (fun w H => x_move (v := .slice _ _ _) rfl) H rfl ?_
              refine WG_take (i := 11) (listed' := [true, true, true, true, true, true, true, true, true, true, true, true, false, false, false, false, false, false]) rfl (by kernel_rfl) (fun w H => x_move (v := .int .i64 _) rfl) H rfl ?_
              refine WG_take (i := 12) (listed' := [true, true, true, true, true, true, true, true, true, true, true, true, true, false, false, false, false, false]) rfl (by kernel_rfl) (fun w H => x_indexAddr (s := 1) Try.underlying23 (by kernel_rfl) rfl rfl (by omega) (by omega) (by first | rfl | assumption | exact H.rsomen .zero (by omega) | exact H.rsomen (.succ .zero) (by omega) | exact H.rsomen (.succ (.succ .zero)) (by omega) | exact H.osomen .zero (by omega) | exact H.osomen (.succ .zero) (by omega) | exact H.osomen (.succ (.succ .zero)) (by omega)) rfl) H rfl ?_
              first | refine WG_take (i := 13) (listed' := [true, true, true, true, true, true, true, true, true, true, true, true, true, true, false, false, false, false]) rfl (by kernel_rfl) (fun w H => x_load (v := .int .i32 _) Try.underlying21 rfl rfl (H.cellAt .zero rfl)) H rfl ?_ | refine WG_take (i := 13) (listed' := [true, true, true, true, true, true, true, true, true, true, true, true, true, true, false, false, false, false]) rfl (by kernel_rfl) (fun w H => x_load (v := .int .i32 _) Try.underlying21 rfl rfl (H.cellAt (.succ .zero) rfl)) H rfl ?_ | refine WG_take (i := 13) (listed' := [true, true, true, true, true, true, true, true, true, true, true, true, true, true, false, false, false, false]) rfl (by kernel_rfl) (fun w H => x_load (v := .int .i32 _) Try.underlying21 rfl rfl (H.cellAt (.succ (.succ .zero)) rfl)) H rfl ?_ | refine WG_take (i := 13) (listed' := [true, true, true, true, true, true, true, true, true, true, true, true, true, true, false, false, false, false]) rfl (by kernel_rfl) (fun w H => x_load (v := .int .i32 _) Try.underlying21 rfl rfl (H.cellAt (.succ (.succ (.succ .zero))) rfl)) H rfl ?_ | refine WG_take (i := 13) (listed' := [true, true, true, true, true, true, true, true, true, true, true, true, true, true, false, false, false, false]) rfl (by kernel_rfl) (fun w H => x_load (v := .int .i32 _) Try.underlying21 rfl rfl (H.cellAt (.succ (.succ (.succ (.succ .zero)))) rfl)) H rfl ?_ | refine WG_take (i := 13) (listed' := [true, true, true, true, true, true, true, true, true, true, true, true, true, true, false, false, false, false]) rfl (by kernel_rfl) (fun w H => x_load Try.underlying21 rfl rfl (H.rnum .zero (by omega) (by omega))) H rfl ?_ | refine WG_take (i := 13) (listed' := [true, true, true, true, true, true, true, true, true, true, true, true, true, true, false, false, false, false]) rfl (by kernel_rfl) (fun w H => x_load Try.underlying21 rfl rfl (H.rnum (.succ .zero) (by omega) (by omega))) H rfl ?_ | refine WG_take (i := 13) (listed' := [true, true, true, true, true, true, true, true, true, true, true, true, true, true, false, false, false, false]) rfl (by kernel_rfl) (fun w H => x_load Try.underlying21 rfl rfl (H.rnum (.succ (.succ .zero)) (by omega) (by omega))) H rfl ?_ | refine WG_take (i := 13) (listed' := [true, true, true, true, true, true, true, true, true, true, true, true, true, true, false, false, false, false]) rfl (by kernel_rfl) (fun w H => x_load Try.underlying21 rfl rfl (H.onum .zero (by omega) (by omega))) H rfl ?_ | refine WG_take (i := 13) (listed' := [true, true, true, true, true, true, true, true, true, true, true, true, true, true, false, false, false, false]) rfl (by kernel_rfl) (fun w H => x_load Try.underlying21 rfl rfl (H.onum (.succ .zero) (by omega) (by omega))) H rfl ?_ | refine WG_take (i := 13) (listed' := [true, true, true, true, true, true, true, true, true, true, true, true, true, true, false, false, false, false]) rfl (by kernel_rfl) (fun w H => x_load Try.underlying21 rfl rfl (H.onum (.succ (.succ .zero)) (by omega) (by omega))) H rfl ?_
              refine WG_take (i := 14) (listed' := [true, true, true, true, true, true, true, true, true, true, true, true, true, true, true, false, false, false]) rfl (by kernel_rfl) (fun w H => x_indexAddr (s := 1) Try.underlying23 (by kernel_rfl) rfl rfl (by omega) (by omega) (by first | rfl | assumption | exact H.rsomen .zero (by omega) | exact H.rsomen (.succ .zero) (by omega) | exact H.rsomen (.succ (.succ .zero)) (by omega) | exact H.osomen .zero (by omega) | exact H.osomen (.succ .zero) (by omega) | exact H.osomen (.succ (.succ .zero)) (by omega)) rfl) H rfl ?_
              refine WG_next (fun w => St W (row A c 21 1 n (nums .i32 d.toList)).fp [row A c 21 1 n (nums .i32 (K.setIfInBounds (j + 1) K[j]!).toList)] [] w) 17 (listed' := [true, true, true, true, true, true, true, true, true, true, true, true, true, true, true, true, false, false]) rfl rfl (by kernel_rfl) rfl ?_
              refine WL_storeR (v := .int .i32 _) (o := (j + 1)) (n := n) (xs := nums .i32 K.toList) (xs' := nums .i32 (K.setIfInBounds (j + 1) K[j]!).toList) Try.underlying21 rfl rfl rfl rfl (by kernel_rfl) (by omega) H .zero (by rw [nums_length]; omega) (nums_setA _ _ _ (nth_at (by omega))) ?_
              clear H; intro w H
              refine WL_nil ?_
              refine nx_mk ?_
              refine WG_take (i := 16) (listed' := [true, true, true, true, true, true, true, true, true, true, true, true, true, true, true, true, true, false]) rfl (by kernel_rfl) (fun w H => x_indexAddr (s := 1) Try.underlying23 (by kernel_rfl) rfl rfl (by omega) (by omega) (H.osomen .zero (by rw [len_setA]; omega)) rfl) H rfl ?_
              refine WG_fin (listed' := [true, true, true, true, true, true, true, true, true, true, true, true, true, true, true, true, true, true]) rfl rfl (by kernel_rfl) rfl (by kernel_rfl) ?_
              refine WL_storeR (v := .int .i32 _) (o := j) (n := n) (xs := nums .i32 (K.setIfInBounds (j + 1) K[j]!).toList) (xs' := nums .i32 (Go.Sort.swp K (j + 1) j).toList) Try.underlying21 rfl rfl rfl rfl (by kernel_rfl) (by omega) H .zero (by rw [nums_length, len_setA]; omega) (nums_setA _ _ _ (nth_at (by omega))) ?_
              clear H; intro w H
              have hM2 : (Go.Sort.swp K (j + 1) j).toList.length = n := by rw [len_swp]; exact hM
              refine WL_nil ?_
              refine fin_mk ?_
              refine inBlockE_normal ?_
              refine thenE_normal ?_
              refine WC_region ?_
              refine WL_x (x_move (v := .int .i64 _) rfl) ?_
              refine WL_x (x_binop rfl rfl (r_sub_in (i64_in (by omega) (by omega)))) ?_
              refine WL_x (x_assign (v := .int .i64 _) rfl) ?_
              refine WL_nil ?_
              refine thenE_normal ?_
              exact ⟨(j, Go.Sort.swp K (j + 1) j), ⟨by simp only; omega, by simp only; omega, hM2, by simp only; rw [← hK]; exact hI, (congrArg (Value.int .i64) (by first | omega | rfl | (simp only; omega))), rfl, rfl, rfl, rfl, H⟩, by simp only; omega⟩
            · have hK : Go.Sort.insInner Go.Sort.ltInt a (j + 1) K = K := insInner_stop (lt_no h30 (by omega) (by omega))
              refine WC_exit ?_
              refine thenE_exit ?_
              refine thenE_exit ?_
              refine inBlockE_exit ?_
              refine inBlockE_normal ?_
              refine thenE_normal ?_
              exact ⟨K, hM, by rw [← hI, hK], rfl, rfl, rfl, rfl, H⟩
          · have hK : Go.Sort.insInner Go.Sort.ltInt a j K = K := insInner_low (by omega)
            refine WG_skip (i := 4) (listed' := [true, true, true, true, true, false, false, false, false, false, false, false, false, false, false]) rfl (by kernel_rfl) rfl rfl rfl H rfl ?_
            refine WG_skip (i := 5) (listed' := [true, true, true, true, true, true, false, false, false, false, false, false, false, false, false]) rfl (by kernel_rfl) rfl rfl rfl H rfl ?_
            refine WG_skip (i := 6) (listed' := [true, true, true, true, true, true, true, false, false, false, false, false, false, false, false]) rfl (by kernel_rfl) rfl rfl rfl H rfl ?_
            refine WG_skip (i := 7) (listed' := [true, true, true, true, true, true, true, true, false, false, false, false, false, false, false]) rfl (by kernel_rfl) rfl rfl rfl H rfl ?_
            refine WG_skip (i := 8) (listed' := [true, true, true, true, true, true, true, true, true, false, false, false, false, false, false]) rfl (by kernel_rfl) rfl rfl rfl H rfl ?_
            refine WG_skip (i := 9) (listed' := [true, true, true, true, true, true, true, true, true, true, false, false, false, false, false]) rfl (by kernel_rfl) rfl rfl rfl H rfl ?_
            refine WG_skip (i := 10) (listed' := [true, true, true, true, true, true, true, true, true, true, true, false, false, false, false]) rfl (by kernel_rfl) rfl rfl rfl H rfl ?_
            refine WG_skip (i := 11) (listed' := [true, true, true, true, true, true, true, true, true, true, true, true, false, false, false]) rfl (by kernel_rfl) rfl rfl rfl H rfl ?_
            refine WG_skip (i := 12) (listed' := [true, true, true, true, true, true, true, true, true, true, true, true, true, false, false]) rfl (by kernel_rfl) rfl rfl rfl H rfl ?_
            refine WG_skip (i := 13) (listed' := [true, true, true, true, true, true, true, true, true, true, true, true, true, true, false]) rfl (by kernel_rfl) rfl rfl rfl H rfl ?_
            refine WG_take (i := 14) (listed' := [true, true, true, true, true, true, true, true, true, true, true, true, true, true, true]) rfl (by kernel_rfl) (fun w H => x_pick (v := .bool _) rfl rfl) H rfl ?_
            refine WG_done (by kernel_rfl) ?_
            refine thenE_normal ?_
            refine WC_no rfl ?_
            refine WC_exit ?_
            refine thenE_exit ?_
            refine thenE_exit ?_
            refine inBlockE_exit ?_
            refine inBlockE_normal ?_
            refine thenE_normal ?_
            exact ⟨K, hM, by rw [← hI, hK], rfl, rfl, rfl, rfl, H⟩
      · clear H
        rintro M2 f w ⟨hM2, hI2, h6, h0, h1, h2, H⟩
        rw [← upd_self h6, ← upd_self h0, ← upd_self h1, ← upd_self h2]
        refine WC_region ?_
        refine WL_x (x_move (v := .int .i64 _) rfl) ?_
        refine WL_x (x_binop rfl rfl (r_add_in (i64_in (by omega) (by omega)))) ?_
        refine WL_x (x_assign (v := .int .i64 _) rfl) ?_
        refine WL_nil ?_
        refine thenE_normal ?_
        exact ⟨(i + 1, M2), ⟨by simp only; omega, .inl (by simp only; omega), hM2, by simp only; rw [hI2, ← insOuter_go hib]; exact hO, (congrArg (Value.int .i64) (by first | omega | rfl | (simp only; omega))), rfl, rfl, rfl, H⟩, by simp only; omega⟩
    · have hR : Go.Sort.insertionSort Go.Sort.ltInt d a b = M := by rw [Go.Sort.insertionSort, ← hO, insOuter_end (by omega)]
      refine WC_exit ?_
      refine thenE_exit ?_
      refine thenE_exit ?_
      refine inBlockE_exit ?_
      refine endn0 Try.results17 ?_
      exact ⟨rfl, H.fr, by rw [hR]; exact H.ok _ List.mem_cons_self⟩

set_option maxHeartbeats 1000000 in
theorem sift_i32 (W : World) (d : Array Int) (A : Option Addr) (c n : Nat) (h : (row A c 21 1 n (nums .i32 d.toList)).ok W) (hM : d.toList.length = n) (hsz : n ≤ 2305843009213693952) (lo hi first : Nat) (hlo : lo ≤ n) (hhi : first + hi ≤ n) :
    Calls Try.prog 28 #[.slice A n c, .int .i64 lo, .int .i64 hi, .int .i64 first] W fun e w' => e = .returned (.tuple #[]) ∧ Fr (row A c 21 1 n (nums .i32 d.toList)).fp W w' ∧ (row A c 21 1 n (nums .i32 (Go.Sort.siftDown Go.Sort.ltInt hi first lo d).toList)).ok w' := by
  have hlen0 := (owns_len h.r)
  unfold maxLen at hlen0
  have H : St W (row A c 21 1 n (nums .i32 d.toList)).fp [row A c 21 1 n (nums .i32 d.toList)] [] W := St.one h
  refine calls_enter (N := 76) Try.func28 rfl Try.ntmps28 rfl ?_
  refine WC_seq ?_
  refine WC_region ?_
  refine WL_x (x_move (v := .int .i64 _) rfl) ?_
  refine WL_x (x_assign (v := .int .i64 _) rfl) ?_
  refine WL_nil ?_
  refine thenE_normal ?_
  refine WC_block ?_
  refine WC_while (fun (s : Nat × Array Int) f w' => s.1 ≤ n ∧ s.2.toList.length = n ∧ Go.Sort.siftDown Go.Sort.ltInt hi first s.1 s.2 = Go.Sort.siftDown Go.Sort.ltInt hi first lo d ∧ f 8 = .int .i64 s.1 ∧ f 0 = .slice A n c ∧ f 2 = .int .i64 hi ∧ f 3 = .int .i64 first ∧ St W (row A c 21 1 n (nums .i32 d.toList)).fp [row A c 21 1 n (nums .i32 s.2.toList)] [] w') (fun s => hi - s.1) (s0 := (lo, d)) ?_ ?_
  · exact ⟨hlo, hM, rfl, rfl, rfl, rfl, rfl, H⟩
  · clear H hM
    rintro ⟨root, M⟩ f w ⟨hr, hM, hS, h8, h0, h2, h3, H⟩
    simp only at hr hM hS h8 h0 h2 h3 H
    rw [← upd_self h8, ← upd_self h0, ← upd_self h2, ← upd_self h3]
    refine WC_block ?_
    refine WC_seq ?_
    refine WC_region ?_
    refine WL_x (x_move (v := .int .i64 _) rfl) ?_
    refine WL_x (x_binop rfl rfl (r_mul_in (i64_in (by omega) (by omega)))) ?_
    refine WL_x (x_binop rfl rfl (r_add_in (i64_in (by omega) (by omega)))) ?_
    refine WL_x (x_assign (v := .int .i64 _) rfl) ?_
    refine WL_nil ?_
    refine thenE_normal ?_
    refine WC_seq ?_
    refine WC_seq ?_
    refine WC_region ?_
    refine WL_x (x_move (v := .int .i64 _) rfl) ?_
    refine WL_x (x_move (v := .int .i64 _) rfl) ?_
    refine WL_x (x_binop rfl rfl (r_geq _ _ _ _)) ?_
    refine WL_nil ?_
    refine thenE_normal ?_
    refine WC_ifd rfl (fun h16 => ?_) (fun h16 => ?_)
    · have hR := sift_end (first := first) (d := M) (show 2 * root + 1 ≥ hi by omega)
      refine WC_exit ?_
      refine thenE_exit ?_
      refine inBlockE_other rfl ?_
      refine thenE_exit ?_
      refine inBlockE_exit ?_
      refine endn0 Try.results28 ?_
      exact ⟨rfl, H.fr, by rw [← hS, hR]; exact H.ok _ List.mem_cons_self⟩
    · refine WC_skip ?_
      refine thenE_normal ?_
      refine WC_seq ?_
      refine WC_seq ?_
      refine WC_drawH (m := 20) (listed := [false, false, false, false, false, false, false, false, false, false, false, false, false, false, false, false, false, false, false, false]) 20 (by kernel_rfl) rfl rfl H ?_
      intro w H
      refine WG_take (i := 0) (listed' := [true, false, false, false, false, false, false, false, false, false, false, false, false, false, false, false, false, false, false, false]) rfl (by kernel_rfl) (fun w H => x_move (v := .int .i64 _) rfl) H rfl ?_
      refine WG_take (i := 1) (listed' := [true, true, false, false, false, false, false, false, false, false, false, false, false, false, false, false, false, false, false, false]) rfl (by kernel_rfl) (fun w H => x_binop rfl rfl (r_add_in (i64_in (by omega) (by omega)))) H rfl ?_
      refine WG_take (i := 2) (listed' := [true, true, true, false, false, false, false, false, false, false, false, false, false, false, false, false, false, false, false, false]) rfl (by kernel_rfl) (fun w H => x_move (v := .int .i64 _) rfl) H rfl ?_
      refine WG_take (i := 3) (listed' := [true, true, true, true, false, false, false, false, false, false, false, false, false, false, false, false, false, false, false, false]) rfl (by kernel_rfl) (fun w H => x_binop rfl rfl (r_lss _ _ _ _)) H rfl ?_
      refine WG_take (i := 4) (listed' := [true, true, true, true, true, false, false, false, false, false, false, false, false, false, false, false, false, false, false, false]) rfl (by kernel_rfl) (fun w H => x_move (v := .bool _) rfl) H rfl ?_
      first | refine WG_cased (t := 21) rfl (fun h21 => ?_) (fun h21 => ?_) | refine WG_casen (t := 21) rfl (fun h21 => ?_) (fun h21 => ?_) | refine WG_case (t := 21) rfl (fun h21 => ?_) (fun h21 => ?_)
      · refine WG_takeG (i := 5) (listed' := [true, true, true, true, true, true, false, false, false, false, false, false, false, false, false, false, false, false, false, false]) rfl (by kernel_rfl) rfl rfl rfl (fun w H => x_move (v := .slice _ _ _) rfl) H rfl ?_
        refine WG_takeG (i := 6) (listed' := [true, true, true, true, true, true, true, false, false, false, false, false, false, false, false, false, false, false, false, false]) rfl (by kernel_rfl) rfl rfl rfl (fun w H => x_move (v := .int .i64 _) rfl) H rfl ?_
        refine WG_takeG (i := 7) (listed' := [true, true, true, true, true, true, true, true, false, false, false, false, false, false, false, false, false, false, false, false]) rfl (by kernel_rfl) rfl rfl rfl (fun w H => x_move (v := .int .i64 _) rfl) H rfl ?_
        refine WG_takeG (i := 8) (listed' := [true, true, true, true, true, true, true, true, true, false, false, false, false, false, false, false, false, false, false, false]) rfl (by kernel_rfl) rfl rfl rfl (fun w H => x_binop rfl rfl (r_add_in (i64_in (by omega) (by omega)))) H rfl ?_
        refine WG_takeG (i := 9) (listed' := [true, true, true, true, true, true, true, true, true, true, false, false, false, false, false, false, false, false, false, false]) rfl (by kernel_rfl) rfl rfl rfl (fun w H => x_indexAddr (s := 1) Try.underlying23 (by kernel_rfl) rfl rfl (by omega) (by omega) (by first | rfl | assumption | exact H.rsomen .zero (by omega) | exact H.rsomen (.succ .zero) (by omega) | exact H.rsomen (.succ (.succ .zero)) (by omega) | exact H.osomen .zero (by omega) | exact H.osomen (.succ .zero) (by omega) | exact H.osomen (.succ (.succ .zero)) (by omega)) rfl) H rfl ?_
        first | refine WG_takeG (i := 10) (listed' := [true, true, true, true, true, true, true, true, true, true, true, false, false, false, false, false, false, false, false, false]) rfl (by kernel_rfl) rfl rfl rfl (fun w H => x_load (v := .int .i32 _) Try.underlying21 rfl rfl (H.cellAt .zero rfl)) H rfl ?_ | refine WG_takeG (i := 10) (listed' := [true, true, true, true, true, true, true, true, true, true, true, false, false, false, false, false, false, false, false, false]) rfl (by kernel_rfl) rfl rfl rfl (fun w H => x_load (v := .int .i32 _) Try.underlying21 rfl rfl (H.cellAt (.succ .zero) rfl)) H rfl ?_ | refine WG_takeG (i := 10) (listed' := [true, true, true, true, true, true, true, true, true, true, true, false, false, false, false, false, false, false, false, false]) rfl (by kernel_rfl) rfl rfl rfl (fun w H => x_load (v := .int .i32 _) Try.underlying21 rfl rfl (H.cellAt (.succ (.succ .zero)) rfl)) H rfl ?_ | refine WG_takeG (i := 10) (listed' := [true, true, true, true, true, true, true, true, true, true, true, false, false, false, false, false, false, false, false, false]) rfl (by kernel_rfl) rfl rfl rfl (fun w H => x_load (v := .int .i32 _) Try.underlying21 rfl rfl (H.cellAt (.succ (.succ (.succ .zero))) rfl)) H rfl ?_ | refine WG_takeG (i := 10) (listed' := [true, true, true, true, true, true, true, true, true, true, true, false, false, false, false, false, false, false, false, false]) rfl (by kernel_rfl) rfl rfl rfl (fun w H => x_load (v := .int .i32 _) Try.underlying21 rfl rfl (H.cellAt (.succ (.succ (.succ (.succ .zero)))) rfl)) H rfl ?_ | refine WG_takeG (i := 10) (listed' := [true, true, true, true, true, true, true, true, true, true, true, false, false, false, false, false, false, false, false, false]) rfl (by kernel_rfl) rfl rfl rfl (fun w H => x_load Try.underlying21 rfl rfl (H.rnum .zero (by omega) (by omega))) H rfl ?_ | refine WG_takeG (i := 10) (listed' := [true, true, true, true, true, true, true, true, true, true, true, false, false, false, false, false, false, false, false, false]) rfl (by kernel_rfl) rfl rfl rfl (fun w H => x_load Try.underlying21 rfl rfl (H.rnum (.succ .zero) (by omega) (by omega))) H rfl ?_ | refine WG_takeG (i := 10) (listed' := [true, true, true, true, true, true, true, true, true, true, true, false, false, false, false, false, false, false, false, false]) rfl (by kernel_rfl) rfl rfl rfl (fun w H => x_load Try.underlying21 rfl rfl (H.rnum (.succ (.succ .zero)) (by omega) (by omega))) H rfl ?_ | refine WG_takeG (i := 10) (listed' := [true, true, true, true, true, true, true, true, true, true, true, false, false, false, false, false, false, false, false, false]) rfl (by kernel_rfl) rfl rfl rfl (fun w H => x_load Try.underlying21 rfl rfl (H.onum .zero (by omega) (by omega))) H rfl ?_ | refine WG_takeG (i := 10) (listed' := [true, true, true, true, true, true, true, true, true, true, true, false, false, false, false, false, false, false, false, false]) rfl (by kernel_rfl) rfl rfl rfl (fun w H => x_load Try.underlying21 rfl rfl (H.onum (.succ .zero) (by omega) (by omega))) H rfl ?_ | refine WG_takeG (i := 10) (listed' := [true, true, true, true, true, true, true, true, true, true, true, false, false, false, false, false, false, false, false, false]) rfl (by kernel_rfl) rfl rfl rfl (fun w H => x_load Try.underlying21 rfl rfl (H.onum (.succ (.succ .zero)) (by omega) (by omega))) H rfl ?_
        refine WG_takeG (i := 11) (listed' := [true, true, true, true, true, true, true, true, true, true, true, true, false, false, false, false, false, false, false, false]) rfl (by kernel_rfl) rfl rfl rfl (fun w H => x_move (v := .slice _ _ _) rfl) H rfl ?_
        refine WG_takeG (i := 12) (listed' := [true, true, true, true, true, true, true, true, true, true, true, true, true, false, false, false, false, false, false, false]) rfl (by kernel_rfl) rfl rfl rfl (fun w H => x_move (v := .int .i64 _) rfl) H rfl ?_
        refine WG_takeG (i := 13) (listed' := [true, true, true, true, true, true, true, true, true, true, true, true, true, true, false, false, false, false, false, false]) rfl (by kernel_rfl) rfl rfl rfl (fun w H => x_move (v := .int .i64 _) rfl) H rfl ?_
        refine WG_takeG (i := 14) (listed' := [true, true, true, true, true, true, true, true, true, true, true, true, true, true, true, false, false, false, false, false]) rfl (by kernel_rfl) rfl rfl rfl (fun w H => x_binop rfl rfl (r_add_in (i64_in (by omega) (by omega)))) H rfl ?_
        refine WG_takeG (i := 15) (listed' := [true, true, true, true, true, true, true, true, true, true, true, true, true, true, true, true, false, false, false, false]) rfl (by kernel_rfl) rfl rfl rfl (fun w H => x_binop rfl rfl (r_add_in (i64_in (by omega) (by omega)))) H rfl ?_
        refine WG_takeG (i := 16) (listed' := [true, true, true, true, true, true, true, true, true, true, true, true, true, true, true, true, true, false, false, false]) rfl (by kernel_rfl) rfl rfl rfl (fun w H => x_indexAddr (s := 1) Try.underlying23 (by kernel_rfl) rfl rfl (by omega) (by omega) (by first | rfl | assumption | exact H.rsomen .zero (by omega) | exact H.rsomen (.succ .zero) (by omega) | exact H.rsomen (.succ (.succ .zero)) (by omega) | exact H.osomen .zero (by omega) | exact H.osomen (.succ .zero) (by omega) | exact H.osomen (.succ (.succ .zero)) (by omega)) rfl) H rfl ?_
        first | refine WG_takeG (i := 17) (listed' := [true, true, true, true, true, true, true, true, true, true, true, true, true, true, true, true, true, true, false, false]) rfl (by kernel_rfl) rfl rfl rfl (fun w H => x_load (v := .int .i32 _) Try.underlying21 rfl rfl (H.cellAt .zero rfl)) H rfl ?_ | refine WG_takeG (i := 17) (listed' := [true, true, true, true, true, true, true, true, true, true, true, true, true, true, true, true, true, true, false, false]) rfl (by kernel_rfl) rfl rfl rfl (fun w H => x_load (v := .int .i32 _) Try.underlying21 rfl rfl (H.cellAt (.succ .zero) rfl)) H rfl ?_ | refine WG_takeG (i := 17) (listed' := [true, true, true, true, true, true, true, true, true, true, true, true, true, true, true, true, true, true, false, false]) rfl (by kernel_rfl) rfl rfl rfl (fun w H => x_load (v := .int .i32 _) Try.underlying21 rfl rfl (H.cellAt (.succ (.succ .zero)) rfl)) H rfl ?_ | refine WG_takeG (i := 17) (listed' := [true, true, true, true, true, true, true, true, true, true, true, true, true, true, true, true, true, true, false, false]) rfl (by kernel_rfl) rfl rfl rfl (fun w H => x_load (v := .int .i32 _) Try.underlying21 rfl rfl (H.cellAt (.succ (.succ (.succ .zero))) rfl)) H rfl ?_ | refine WG_takeG (i := 17) (listed' := [true, true, true, true, true, true, true, true, true, true, true, true, true, true, true, true, true, true, false, false]) rfl (by kernel_rfl) rfl rfl rfl (fun w H => x_load (v := .int .i32 _) Try.underlying21 rfl rfl (H.cellAt (.succ (.succ (.succ (.succ .zero)))) rfl)) H rfl ?_ | refine WG_takeG (i := 17) (listed' := [true, true, true, true, true, true, true, true, true, true, true, true, true, true, true, true, true, true, false, false]) rfl (by kernel_rfl) rfl rfl rfl (fun w H => x_load Try.underlying21 rfl rfl (H.rnum .zero (by omega) (by omega))) H rfl ?_ | refine WG_takeG (i := 17) (listed' := [true, true, true, true, true, true, true, true, true, true, true, true, true, true, true, true, true, true, false, false]) rfl (by kernel_rfl) rfl rfl rfl (fun w H => x_load Try.underlying21 rfl rfl (H.rnum (.succ .zero) (by omega) (by omega))) H rfl ?_ | refine WG_takeG (i := 17) (listed' := [true, true, true, true, true, true, true, true, true, true, true, true, true, true, true, true, true, true, false, false]) rfl (by kernel_rfl) rfl rfl rfl (fun w H => x_load Try.underlying21 rfl rfl (H.rnum (.succ (.succ .zero)) (by omega) (by omega))) H rfl ?_ | refine WG_takeG (i := 17) (listed' := [true, true, true, true, true, true, true, true, true, true, true, true, true, true, true, true, true, true, false, false]) rfl (by kernel_rfl) rfl rfl rfl (fun w H => x_load Try.underlying21 rfl rfl (H.onum .zero (by omega) (by omega))) H rfl ?_ | refine WG_takeG (i := 17) (listed' := [true, true, true, true, true, true, true, true, true, true, true, true, true, true, true, true, true, true, false, false]) rfl (by kernel_rfl) rfl rfl rfl (fun w H => x_load Try.underlying21 rfl rfl (H.onum (.succ .zero) (by omega) (by omega))) H rfl ?_ | refine WG_takeG (i := 17) (listed' := [true, true, true, true, true, true, true, true, true, true, true, true, true, true, true, true, true, true, false, false]) rfl (by kernel_rfl) rfl rfl rfl (fun w H => x_load Try.underlying21 rfl rfl (H.onum (.succ (.succ .zero)) (by omega) (by omega))) H rfl ?_
        refine WG_midG (i := 18) (listed' := [true, true, true, true, true, true, true, true, true, true, true, true, true, true, true, true, true, true, true, false]) rfl rfl rfl rfl rfl (by kernel_rfl) rfl rfl ?_
        refine WL_guard_yes rfl rfl rfl ?_
        refine WL_call (vs := [.int .i32 _, .int .i32 _]) Try.func23 rfl rfl rfl (less_i32 _ _ _) ?_
        rintro _ w ⟨rfl, hf⟩
        refine ⟨_, rfl, ?_⟩
        replace H := H.quiet hf
        refine WL_nil ?_
        refine mid_mk H ?_
        refine WG_take (i := 19) (listed' := [true, true, true, true, true, true, true, true, true, true, true, true, true, true, true, true, true, true, true, true]) rfl (by kernel_rfl) (fun w H => x_pick (v := .bool _) rfl rfl) H rfl ?_
        refine WG_done (by kernel_rfl) ?_
        refine thenE_normal ?_
        refine WC_ifd rfl (fun h36 => ?_) (fun h36 => ?_)
        · obtain ⟨ch, hch⟩ : ∃ ch : Nat, ch = 2 * root + 2 := ⟨_, rfl⟩
          have hchlt : ch < hi := by omega
          have hst := sift_two (first := first) (d := M) hch hchlt (lt_yes h36 (by omega) (by omega))
          refine WC_region ?_
          refine WL_x (x_move (v := .int .i64 _) rfl) ?_
          refine WL_x (x_binop rfl rfl (r_add_in (i64_in (by omega) (by omega)))) ?_
          refine WL_x (x_assign (v := .int .i64 _) rfl) ?_
          refine WL_nil ?_
          refine thenE_normal ?_
          refine WC_seq ?_
          refine WC_seq ?_
          refine WC_drawH (m := 14) (listed := [false, false, false, false, false, false, false, false, false, false, false, false, false, false]) 14 (by kernel_rfl) rfl rfl H ?_
          intro w H
          refine WG_take (i := 0) (listed' := [true, false, false, false, false, false, false, false, false, false, false, false, false, false]) rfl (by kernel_rfl) (fun w H => x_move (v := .slice _ _ _) rfl) H rfl ?_
          refine WG_take (i := 1) (listed' := [true, true, false, false, false, false, false, false, false, false, false, false, false, false]) rfl (by kernel_rfl) (fun w H => x_move (v := .int .i64 _) rfl) H rfl ?_
          refine WG_take (i := 2) (listed' := [true, true, true, false, false, false, false, false, false, false, false, false, false, false]) rfl (by kernel_rfl) (fun w H => x_move (v := .int .i64 _) rfl) H rfl ?_
          refine WG_take (i := 3) (listed' := [true, true, true, true, false, false, false, false, false, false, false, false, false, false]) rfl (by kernel_rfl) (fun w H => x_binop rfl rfl (r_add_in (i64_in (by omega) (by omega)))) H rfl ?_
          refine WG_take (i := 4) (listed' := [true, true, true, true, true, false, false, false, false, false, false, false, false, false]) rfl (by kernel_rfl) (fun w H => x_indexAddr (s := 1) Try.underlying23 (by kernel_rfl) rfl rfl (by omega) (by omega) (by first | rfl | assumption | exact H.rsomen .zero (by omega) | exact H.rsomen (.succ .zero) (by omega) | exact H.rsomen (.succ (.succ .zero)) (by omega) | exact H.osomen .zero (by omega) | exact H.osomen (.succ .zero) (by omega) | exact H.osomen (.succ (.succ .zero)) (by omega)) rfl) H rfl ?_
          first | refine WG_take (i := 5) (listed' := [true, true, true, true, true, true, false, false, false, false, false, false, false, false]) rfl (by kernel_rfl) (fun w H => x_load (v := .int .i32 _) Try.underlying21 rfl rfl (H.cellAt .zero rfl)) H rfl ?_ | refine WG_take (i := 5) (listed' := [true, true, true, true, true, true, false, false, false, false, false, false, false, false]) rfl (by kernel_rfl) (fun w H => x_load (v := .int .i32 _) Try.underlying21 rfl rfl (H.cellAt (.succ .zero) rfl)) H rfl ?_ | refine WG_take (i := 5) (listed' := [true, true, true, true, true, true, false, false, false, false, false, false, false, false]) rfl (by kernel_rfl) (fun w H => x_load (v := .int .i32 _) Try.underlying21 rfl rfl (H.cellAt (.succ (.succ .zero)) rfl)) H rfl ?_ | refine WG_take (i := 5) (listed' := [true, true, true, true, true, true, false, false, false, false, false, false, false, false]) rfl (by kernel_rfl) (fun w H => x_load (v := .int .i32 _) Try.underlying21 rfl rfl (H.cellAt (.succ (.succ (.succ .zero))) rfl)) H rfl ?_ | refine WG_take (i := 5) (listed' := [true, true, true, true, true, true, false, false, false, false, false, false, false, false]) rfl (by kernel_rfl) (fun w H => x_load (v := .int .i32 _) Try.underlying21 rfl rfl (H.cellAt (.succ (.succ (.succ (.succ .zero)))) rfl)) H rfl ?_ | refine WG_take (i := 5) (listed' := [true, true, true, true, true, true, false, false, false, false, false, false, false, false]) rfl (by kernel_rfl) (fun w H => x_load Try.underlying21 rfl rfl (H.rnum .zero (by omega) (by omega))) H rfl ?_ | refine WG_take (i := 5) (listed' := [true, true, true, true, true, true, false, false, false, false, false, false, false, false]) rfl (by kernel_rfl) (fun w H => x_load Try.underlying21 rfl rfl (H.rnum (.succ .zero) (by omega) (by omega))) H rfl ?_ | refine WG_take (i := 5) (listed' := [true, true, true, true, true, true, false, false, false, false, false, false, false, false]) rfl (by kernel_rfl) (fun w H => x_load Try.underlying21 rfl rfl (H.rnum (.succ (.succ .zero)) (by omega) (by omega))) H rfl ?_ | refine WG_take (i := 5) (listed' := [true, true, true, true, true, true, false, false, false, false, false, false, false, false]) rfl (by kernel_rfl) (fun w H => x_load Try.underlying21 rfl rfl (H.onum .zero (by omega) (by omega))) H rfl ?_ | refine WG_take (i := 5) (listed' := [true, true, true, true, true, true, false, false, false, false, false, false, false, false]) rfl (by kernel_rfl) (fun w H => x_load Try.underlying21 rfl rfl (H.onum (.succ .zero) (by omega) (by omega))) H rfl ?_ | refine WG_take (i := 5) (listed' := [true, true, true, true, true, true, false, false, false, false, false, false, false, false]) rfl (by kernel_rfl) (fun w H => x_load Try.underlying21 rfl rfl (H.onum (.succ (.succ .zero)) (by omega) (by omega))) H rfl ?_
          refine WG_take (i := 6) (listed' := [true, true, true, true, true, true, true, false, false, false, false, false, false, false]) rfl (by kernel_rfl) (fun w H => x_move (v := .slice _ _ _) rfl) H rfl ?_
          refine WG_take (i := 7) (listed' := [true, true, true, true, true, true, true, true, false, false, false, false, false, false]) rfl (by kernel_rfl) (fun w H => x_move (v := .int .i64 _) rfl) H rfl ?_
          refine WG_take (i := 8) (listed' := [true, true, true, true, true, true, true, true, true, false, false, false, false, false]) rfl (by kernel_rfl) (fun w H => x_move (v := .int .i64 _) rfl) H rfl ?_
          refine WG_take (i := 9) (listed' := [true, true, true, true, true, true, true, true, true, true, false, false, false, false]) rfl (by kernel_rfl) (fun w H => x_binop rfl rfl (r_add_in (i64_in (by omega) (by omega)))) H rfl ?_
          refine WG_take (i := 10) (listed' := [true, true, true, true, true, true, true, true, true, true, true, false, false, false]) rfl (by kernel_rfl) (fun w H => x_indexAddr (s := 1) Try.underlying23 (by kernel_rfl) rfl rfl (by omega) (by omega) (by first | rfl | assumption | exact H.rsomen .zero (by omega) | exact H.rsomen (.succ .zero) (by omega) | exact H.rsomen (.succ (.succ .zero)) (by omega) | exact H.osomen .zero (by omega) | exact H.osomen (.succ .zero) (by omega) | exact H.osomen (.succ (.succ .zero)) (by omega)) rfl) H rfl ?_
          first | refine WG_take (i := 11) (listed' := [true, true, true, true, true, true, true, true, true, true, true, true, false, false]) rfl (by kernel_rfl) (fun w H => x_load (v := .int .i32 _) Try.underlying21 rfl rfl (H.cellAt .zero rfl)) H rfl ?_ | refine WG_take (i := 11) (listed' := [true, true, true, true, true, true, true, true, true, true, true, true, false, false]) rfl (by kernel_rfl) (fun w H => x_load (v := .int .i32 _) Try.underlying21 rfl rfl (H.cellAt (.succ .zero) rfl)) H rfl ?_ | refine WG_take (i := 11) (listed' := [true, true, true, true, true, true, true, true, true, true, true, true, false, false]) rfl (by kernel_rfl) (fun w H => x_load (v := .int .i32 _) Try.underlying21 rfl rfl (H.cellAt (.succ (.succ .zero)) rfl)) H rfl ?_ | refine WG_take (i := 11) (listed' := [true, true, true, true, true, true, true, true, true, true, true, true, false, false]) rfl (by kernel_rfl) (fun w H => x_load (v := .int .i32 _) Try.underlying21 rfl rfl (H.cellAt (.succ (.succ (.succ .zero))) rfl)) H rfl ?_ | refine WG_take (i := 11) (listed' := [true, true, true, true, true, true, true, true, true, true, true, true, false, false]) rfl (by kernel_rfl) (fun w H => x_load (v := .int .i32 _) Try.underlying21 rfl rfl (H.cellAt (.succ (.succ (.succ (.succ .zero)))) rfl)) H rfl ?_ | refine WG_take (i := 11) (listed' := [true, true, true, true, true, true, true, true, true, true, true, true, false, false]) rfl (by kernel_rfl) (fun w H => x_load Try.underlying21 rfl rfl (H.rnum .zero (by omega) (by omega))) H rfl ?_ | refine WG_take (i := 11) (listed' := [true, true, true, true, true, true, true, true, true, true, true, true, false, false]) rfl (by kernel_rfl) (fun w H => x_load Try.underlying21 rfl rfl (H.rnum (.succ .zero) (by omega) (by omega))) H rfl ?_ | refine WG_take (i := 11) (listed' := [true, true, true, true, true, true, true, true, true, true, true, true, false, false]) rfl (by kernel_rfl) (fun w H => x_load Try.underlying21 rfl rfl (H.rnum (.succ (.succ .zero)) (by omega) (by omega))) H rfl ?_ | refine WG_take (i := 11) (listed' := [true, true, true, true, true, true, true, true, true, true, true, true, false, false]) rfl (by kernel_rfl) (fun w H => x_load Try.underlying21 rfl rfl (H.onum .zero (by omega) (by omega))) H rfl ?_ | refine WG_take (i := 11) (listed' := [true, true, true, true, true, true, true, true, true, true, true, true, false, false]) rfl (by kernel_rfl) (fun w H => x_load Try.underlying21 rfl rfl (H.onum (.succ .zero) (by omega) (by omega))) H rfl ?_ | refine WG_take (i := 11) (listed' := [true, true, true, true, true, true, true, true, true, true, true, true, false, false]) rfl (by kernel_rfl) (fun w H => x_load Try.underlying21 rfl rfl (H.onum (.succ (.succ .zero)) (by omega) (by omega))) H rfl ?_
          refine WG_mid (i := 12) (listed' := [true, true, true, true, true, true, true, true, true, true, true, true, true, false]) rfl rfl (by kernel_rfl) rfl rfl ?_
          refine WL_call (vs := [.int .i32 _, .int .i32 _]) Try.func23 rfl rfl rfl (less_i32 _ _ _) ?_
          rintro _ w ⟨rfl, hf⟩
          refine ⟨_, rfl, ?_⟩
          replace H := H.quiet hf
          refine WL_nil ?_
          refine mid_mk H ?_
          refine WG_take (i := 13) (listed' := [true, true, true, true, true, true, true, true, true, true, true, true, true, true]) rfl (by kernel_rfl) (fun w H => x_not rfl) H rfl ?_
          refine WG_done (by kernel_rfl) ?_
          refine thenE_normal ?_
          refine WC_ifn rfl (fun h52 => ?_) (fun h52 => ?_)
          · have hR : Go.Sort.siftDown Go.Sort.ltInt hi first root M = M := by rw [hst, lt_no (i := first + root) (j := first + ch) h52 (by omega) (by omega)]; rfl
            refine WC_ret ?_
            refine thenE_ret ?_
            refine inBlockE_ret ?_
            refine thenE_ret ?_
            refine inBlockE_ret ?_
            refine ends0 Try.results28 ?_
            exact ⟨rfl, H.fr, by rw [← hS, hR]; exact H.ok _ List.mem_cons_self⟩
          · have hR2 : Go.Sort.siftDown Go.Sort.ltInt hi first root M = Go.Sort.siftDown Go.Sort.ltInt hi first ch (Go.Sort.swp M (first + root) (first + ch)) := by rw [hst, lt_yes (i := first + root) (j := first + ch) h52 (by omega) (by omega)]; rfl
            refine WC_skip ?_
            refine thenE_normal ?_
            refine WC_seq ?_
            refine WC_drawT (m := 24) (listed := [false, false, false, false, false, false, false, false, false, false, false, false, false, false, false, false, false, false, false, false, false, false, false, false]) (by kernel_rfl) rfl rfl H ?_
            intro w H
            refine WG_take (i := 4) (listed' := [false, false, false, false, true, false, false, false, false, false, false, false, false, false, false, false, false, false, false, false, false, false, false, false]) rfl (by kernel_rfl) (fun w _ => x_move (v := .slice _ _ _) rfl) trivial rfl ?_
            refine WG_take (i := 5) (listed' := [false, false, false, false, true, true, false, false, false, false, false, false, false, false, false, false, false, false, false, false, false, false, false, false]) rfl (by kernel_rfl) (fun w _ => x_move (v := .int .i64 _) rfl) trivial rfl ?_
            refine WG_take (i := 6) (listed' := [false, false, false, false, true, true, true, false, false, false, false, false, false, false, false, false, false, false, false, false, false, false, false, false]) rfl (by kernel_rfl) (fun w _ => x_move (v := .int .i64 _) rfl) trivial rfl ?_
            refine WG_take (i := 7) (listed' := [false, false, false, false, true, true, true, true, false, false, false, false, false, false, false, false, false, false, false, false, false, false, false, false]) rfl (by kernel_rfl) (fun w _ => x_binop rfl rfl (r_add_in (i64_in (by omega) (by omega)))) trivial rfl ?_
            refine WG_true (S := fun w => St W (row A c 21 1 n (nums .i32 d.toList)).fp [row A c 21 1 n (nums .i32 M.toList)] [] w) (n := 21) rfl ?_
            refine WG_take (i := 0) (listed' := [true, false, false, false, true, true, true, true, false, false, false, false, false, false, false, false, false, false, false, false, false, false, false, false]) rfl (by kernel_rfl) (fun w H => x_move (v := .slice _ _ _) rfl) H rfl ?_
            refine WG_take (i := 1) (listed' := [true, true, false, false, true, true, true, true, false, false, false, false, false, false, false, false, false, false, false, false, false, false, false, false]) rfl (by kernel_rfl) (fun w H => x_move (v := .int .i64 _) rfl) H rfl ?_
            refine WG_take (i := 2) (listed' := [true, true, true, false, true, true, true, true, false, false, false, false, false, false, false, false, false, false, false, false, false, false, false, false]) rfl (by kernel_rfl) (fun w H => x_move (v := .int .i64 _) rfl) H rfl ?_
            refine WG_take (i := 3) (listed' := [true, true, true, true, true, true, true, true, false, false, false, false, false, false, false, false, false, false, false, false, false, false, false, false]) rfl (by kernel_rfl) (fun w H => x_binop rfl rfl (r_add_in (i64_in (by omega) (by omega)))) H rfl ?_
            refine WG_take (i := 8) (listed' := [true, true, true, true, true, true, true, true, true, false, false, false, false, false, false, false, false, false, false, false, false, false, false, false]) rfl (by kernel_rfl) (fun w H => x_move (v := .slice _ _ _) rfl) H rfl ?_
            refine WG_take (i := 9) (listed' := [true, true, true, true, true, true, true, true, true, true, false, false, false, false, false, false, false, false, false, false, false, false, false, false]) rfl (by kernel_rfl) (fun w H => x_move (v := .int .i64 _) rfl) H rfl ?_
            refine WG_take (i := 10) (listed' := [true, true, true, true, true, true, true, true, true, true, true, false, false, false, false, false, false, false, false, false, false, false, false, false]) rfl (by kernel_rfl) (fun w H => x_move (v := .int .i64 _) rfl) H rfl ?_
            refine WG_take (i := 11) (listed' := [true, true, true, true, true, true, true, true, true, true, true, true, false, false, false, false, false, false, false, false, false, false, false, false]) rfl (by kernel_rfl) (fun w H => x_binop rfl rfl (r_add_in (i64_in (by omega) (by omega)))) H rfl ?_
            refine WG_take (i := 12) (listed' := [true, true, true, true, true, true, true, true, true, true, true, true, true, false, false, false, false, false, false, false, false, false, false, false]) rfl (by kernel_rfl) (fun w H => x_indexAddr (s := 1) Try.underlying23 (by kernel_rfl) rfl rfl (by omega) (by omega) (by first | rfl | assumption | exact H.rsomen .zero (by omega) | exact H.rsomen (.succ .zero) (by omega) | exact H.rsomen (.succ (.succ .zero)) (by omega) | exact H.osomen .zero (by omega) | exact H.osomen (.succ .zero) (by omega) | exact H.osomen (.succ (.succ .zero)) (by omega)) rfl) H rfl ?_
            first | refine WG_take (i := 13) (listed' := [true, true, true, true, true, true, true, true, true, true, true, true, true, true, false, false, false, false, false, false, false, false, false, false]) rfl (by kernel_rfl) (fun w H => x_load (v := .int .i32 _) Try.underlying21 rfl rfl (H.cellAt .zero rfl)) H rfl ?_ | refine WG_take (i := 13) (listed' := [true, true, true, true, true, true, true, true, true, true, true, true, true, true, false, false, false, false, false, false, false, false, false, false]) rfl (by kernel_rfl) (fun w H => x_load (v := .int .i32 _) Try.underlying21 rfl rfl (H.cellAt (.succ .zero) rfl)) H rfl ?_ | refine WG_take (i := 13) (listed' := [true, true, true, true, true, true, true, true, true, true, true, true, true, true, false, false, false, false, false, false, false, false, false, false]) rfl (by kernel_rfl) (fun w H => x_load (v := .int .i32 _) Try.underlying21 rfl rfl (H.cellAt (.succ (.succ .zero)) rfl)) H rfl ?_ | refine WG_take (i := 13) (listed' := [true, true, true, true, true, true, true, true, true, true, true, true, true, true, false, false, false, false, false, false, false, false, false, false]) rfl (by kernel_rfl) (fun w H => x_load (v := .int .i32 _) Try.underlying21 rfl rfl (H.cellAt (.succ (.succ (.succ .zero))) rfl)) H rfl ?_ | refine WG_take (i := 13) (listed' := [true, true, true, true, true, true, true, true, true, true, true, true, true, true, false, false, false, false, false, false, false, false, false, false]) rfl (by kernel_rfl) (fun w H => x_load (v := .int .i32 _) Try.underlying21 rfl rfl (H.cellAt (.succ (.succ (.succ (.succ .zero)))) rfl)) H rfl ?_ | refine WG_take (i := 13) (listed' := [true, true, true, true, true, true, true, true, true, true, true, true, true, true, false, false, false, false, false, false, false, false, false, false]) rfl (by kernel_rfl) (fun w H => x_load Try.underlying21 rfl rfl (H.rnum .zero (by omega) (by omega))) H rfl ?_ | refine WG_take (i := 13) (listed' := [true, true, true, true, true, true, true, true, true, true, true, true, true, true, false, false, false, false, false, false, false, false, false, false]) rfl (by kernel_rfl) (fun w H => x_load Try.underlying21 rfl rfl (H.rnum (.succ .zero) (by omega) (by omega))) H rfl ?_ | refine WG_take (i := 13) (listed' := [true, true, true, true, true, true, true, true, true, true, true, true, true, true, false, false, false, false, false, false, false, false, false, false]) rfl (by kernel_rfl) (fun w H => x_load Try.underlying21 rfl rfl (H.rnum (.succ (.succ .zero)) (by omega) (by omega))) H rfl ?_ | refine WG_take (i := 13) (listed' := [true, true, true, true, true, true, true, true, true, true, true, true, true, true, false, false, false, false, false, false, false, false, false, false]) rfl (by kernel_rfl) (fun w H => x_load Try.underlying21 rfl rfl (H.onum .zero (by omega) (by omega))) H rfl ?_ | refine WG_take (i := 13) (listed' := [true, true, true, true, true, true, true, true, true, true, true, true, true, true, false, false, false, false, false, false, false, false, false, false]) rfl (by kernel_rfl) (fun w H => x_load Try.underlying21 rfl rfl (H.onum (.succ .zero) (by omega) (by omega))) H rfl ?_ | refine WG_take (i := 13) (listed' := [true, true, true, true, true, true, true, true, true, true, true, true, true, true, false, false, false, false, false, false, false, false, false, false]) rfl (by kernel_rfl) (fun w H => x_load Try.underlying21 rfl rfl (H.onum (.succ (.succ .zero)) (by omega) (by omega))) H rfl ?_
            refine WG_take (i := 14) (listed' := [true, true, true, true, true, true, true, true, true, true, true, true, true, true, true, false, false, false, false, false, false, false, false, false]) rfl (by kernel_rfl) (fun w H => x_move (v := .slice _ _ _) rfl) H rfl ?_
            refine WG_take (i := 15) (listed' := [true, true, true, true, true, true, true, true, true, true, true, true, true, true, true, true, false, false, false, false, false, false, false, false]) rfl (by kernel_rfl) (fun w H => x_move (v := .int .i64 _) rfl) H rfl ?_
            refine WG_take (i := 16) (listed' := [true, true, true, true, true, true, true, true, true, true, true, true, true, true, true, true, true, false, false, false, false, false, false, false]) rfl (by kernel_rfl) (fun w H => x_move (v := .int .i64 _) rfl) H rfl ?_
            refine WG_take (i := 17) (listed' := [true, true, true, true, true, true, true, true, true, true, true, true, true, true, true, true, true, true, false, false, false, false, false, false]) rfl (by kernel_rfl) (fun w H => x_binop rfl rfl (r_add_in (i64_in (by omega) (by omega)))) H rfl ?_
            refine WG_take (i := 18) (listed' := [true, true, true, true, true, true, true, true, true, true, true, true, true, true, true, true, true, true, true, false, false, false, false, false]) rfl (by kernel_rfl) (fun w H => x_indexAddr (s := 1) Try.underlying23 (by kernel_rfl) rfl rfl (by omega) (by omega) (by first | rfl | assumption | exact H.rsomen .zero (by omega) | exact H.rsomen (.succ .zero) (by omega) | exact H.rsomen (.succ (.succ .zero)) (by omega) | exact H.osomen .zero (by omega) | exact H.osomen (.succ .zero) (by omega) | exact H.osomen (.succ (.succ .zero)) (by omega)) rfl) H rfl ?_
            first | refine WG_take (i := 19) (listed' := [true, true, true, true, true, true, true, true, true, true, true, true, true, true, true, true, true, true, true, true, false, false, false, false]) rfl (by kernel_rfl) (fun w H => x_load (v := .int .i32 _) Try.underlying21 rfl rfl (H.cellAt .zero rfl)) H rfl ?_ | refine WG_take (i := 19) (listed' := [true, true, true, true, true, true, true, true, true, true, true, true, true, true, true, true, true, true, true, true, false, false, false, false]) rfl (by kernel_rfl) (fun w H => x_load (v := .int .i32 _) Try.underlying21 rfl rfl (H.cellAt (.succ .zero) rfl)) H rfl ?_ | refine WG_take (i := 19) (listed' := [true, true, true, true, true, true, true, true, true, true, true, true, true, true, true, true, true, true, true, true, false, false, false, false]) rfl (by kernel_rfl) (fun w H => x_load (v := .int .i32 _) Try.underlying21 rfl rfl (H.cellAt (.succ (.succ .zero)) rfl)) H rfl ?_ | refine WG_take (i := 19) (listed' := [true, true, true, true, true, true, true, true, true, true, true, true, true, true, true, true, true, true, true, true, false, false, false, false]) rfl (by kernel_rfl) (fun w H => x_load (v := .int .i32 _) Try.underlying21 rfl rfl (H.cellAt (.succ (.succ (.succ .zero))) rfl)) H rfl ?_ | refine WG_take (i := 19) (listed' := [true, true, true, true, true, true, true, true, true, true, true, true, true, true, true, true, true, true, true, true, false, false, false, false]) rfl (by kernel_rfl) (fun w H => x_load (v := .int .i32 _) Try.underlying21 rfl rfl (H.cellAt (.succ (.succ (.succ (.succ .zero)))) rfl)) H rfl ?_ | refine WG_take (i := 19) (listed' := [true, true, true, true, true, true, true, true, true, true, true, true, true, true, true, true, true, true, true, true, false, false, false, false]) rfl (by kernel_rfl) (fun w H => x_load Try.underlying21 rfl rfl (H.rnum .zero (by omega) (by omega))) H rfl ?_ | refine WG_take (i := 19) (listed' := [true, true, true, true, true, true, true, true, true, true, true, true, true, true, true, true, true, true, true, true, false, false, false, false]) rfl (by kernel_rfl) (fun w H => x_load Try.underlying21 rfl rfl (H.rnum (.succ .zero) (by omega) (by omega))) H rfl ?_ | refine WG_take (i := 19) (listed' := [true, true, true, true, true, true, true, true, true, true, true, true, true, true, true, true, true, true, true, true, false, false, false, false]) rfl (by kernel_rfl) (fun w H => x_load Try.underlying21 rfl rfl (H.rnum (.succ (.succ .zero)) (by omega) (by omega))) H rfl ?_ | refine WG_take (i := 19) (listed' := [true, true, true, true, true, true, true, true, true, true, true, true, true, true, true, true, true, true, true, true, false, false, false, false]) rfl (by kernel_rfl) (fun w H => x_load Try.underlying21 rfl rfl (H.onum .zero (by omega) (by omega))) H rfl ?_ | refine WG_take (i := 19) (listed' := [true, true, true, true, true, true, true, true, true, true, true, true, true, true, true, true, true, true, true, true, false, false, false, false]) rfl (by kernel_rfl) (fun w H => x_load Try.underlying21 rfl rfl (H.onum (.succ .zero) (by omega) (by omega))) H rfl ?_ | refine WG_take (i := 19) (listed' := [true, true, true, true, true, true, true, true, true, true, true, true, true, true, true, true, true, true, true, true, false, false, false, false]) rfl (by kernel_rfl) (fun w H => x_load Try.underlying21 rfl rfl (H.onum (.succ (.succ .zero)) (by omega) (by omega))) H rfl ?_
            refine WG_take (i := 20) (listed' := [true, true, true, true, true, true, true, true, true, true, true, true, true, true, true, true, true, true, true, true, true, false, false, false]) rfl (by kernel_rfl) (fun w H => x_indexAddr (s := 1) Try.underlying23 (by kernel_rfl) rfl rfl (by omega) (by omega) (by first | rfl | assumption | exact H.rsomen .zero (by omega) | exact H.rsomen (.succ .zero) (by omega) | exact H.rsomen (.succ (.succ .zero)) (by omega) | exact H.osomen .zero (by omega) | exact H.osomen (.succ .zero) (by omega) | exact H.osomen (.succ (.succ .zero)) (by omega)) rfl) H rfl ?_
            refine WG_next (fun w => St W (row A c 21 1 n (nums .i32 d.toList)).fp [row A c 21 1 n (nums .i32 (M.setIfInBounds (first + root) M[(first + ch)]!).toList)] [] w) 23 (listed' := [true, true, true, true, true, true, true, true, true, true, true, true, true, true, true, true, true, true, true, true, true, true, false, false]) rfl rfl (by kernel_rfl) rfl ?_
            refine WL_storeR (v := .int .i32 _) (o := (first + root)) (n := n) (xs := nums .i32 M.toList) (xs' := nums .i32 (M.setIfInBounds (first + root) M[(first + ch)]!).toList) Try.underlying21 rfl rfl rfl rfl (by kernel_rfl) (by omega) H .zero (by rw [nums_length]; omega) (nums_setA _ _ _ (nth_at (by omega))) ?_
            clear H; intro w H
            refine WL_nil ?_
            refine nx_mk ?_
            refine WG_take (i := 22) (listed' := [true, true, true, true, true, true, true, true, true, true, true, true, true, true, true, true, true, true, true, true, true, true, true, false]) rfl (by kernel_rfl) (fun w H => x_indexAddr (s := 1) Try.underlying23 (by kernel_rfl) rfl rfl (by omega) (by omega) (H.osomen .zero (by rw [len_setA]; omega)) rfl) H rfl ?_
            refine WG_fin (listed' := [true, true, true, true, true, true, true, true, true, true, true, true, true, true, true, true, true, true, true, true, true, true, true, true]) rfl rfl (by kernel_rfl) rfl (by kernel_rfl) ?_
            refine WL_storeR (v := .int .i32 _) (o := (first + ch)) (n := n) (xs := nums .i32 (M.setIfInBounds (first + root) M[(first + ch)]!).toList) (xs' := nums .i32 (Go.Sort.swp M (first + root) (first + ch)).toList) Try.underlying21 rfl rfl rfl rfl (by kernel_rfl) (by omega) H .zero (by rw [nums_length, len_setA]; omega) (nums_setA _ _ _ (nth_at (by omega))) ?_
            clear H; intro w H
            have hM2 : (Go.Sort.swp M (first + root) (first + ch)).toList.length = n := by rw [len_swp]; exact hM
            refine WL_nil ?_
            refine fin_mk ?_
            refine thenE_normal ?_
            refine WC_region ?_
            refine WL_x (x_move (v := .int .i64 _) rfl) ?_
            refine WL_x (x_assign (v := .int .i64 _) rfl) ?_
            refine WL_nil ?_
            refine inBlockE_normal ?_
            refine thenE_normal ?_
            exact ⟨(ch, Go.Sort.swp M (first + root) (first + ch)), ⟨by simp only; omega, hM2, by simp only; rw [← hR2]; exact hS, (congrArg (Value.int .i64) (by first | omega | rfl | (simp only; omega))), rfl, rfl, rfl, H⟩, by simp only; omega⟩
        · obtain ⟨ch, hch⟩ : ∃ ch : Nat, ch = 2 * root + 1 := ⟨_, rfl⟩
          have hchlt : ch < hi := by omega
          have hst := sift_one (first := first) (d := M) hch hchlt (fun hh => by rw [lt_no h36 (by omega) (by omega)] at hh; exact absurd hh.2 (by decide))
          refine WC_skip ?_
          refine thenE_normal ?_
          refine WC_seq ?_
          refine WC_seq ?_
          refine WC_drawH (m := 14) (listed := [false, false, false, false, false, false, false, false, false, false, false, false, false, false]) 14 (by kernel_rfl) rfl rfl H ?_
          intro w H
          refine WG_take (i := 0) (listed' := [true, false, false, false, false, false, false, false, false, false, false, false, false, false]) rfl (by kernel_rfl) (fun w H => x_move (v := .slice _ _ _) rfl) H rfl ?_
          refine WG_take (i := 1) (listed' := [true, true, false, false, false, false, false, false, false, false, false, false, false, false]) rfl (by kernel_rfl) (fun w H => x_move (v := .int .i64 _) rfl) H rfl ?_
          refine WG_take (i := 2) (listed' := [true, true, true, false, false, false, false, false, false, false, false, false, false, false]) rfl (by kernel_rfl) (fun w H => x_move (v := .int .i64 _) rfl) H rfl ?_
          refine WG_take (i := 3) (listed' := [true, true, true, true, false, false, false, false, false, false, false, false, false, false]) rfl (by kernel_rfl) (fun w H => x_binop rfl rfl (r_add_in (i64_in (by omega) (by omega)))) H rfl ?_
          refine WG_take (i := 4) (listed' := [true, true, true, true, true, false, false, false, false, false, false, false, false, false]) rfl (by kernel_rfl) (fun w H => x_indexAddr (s := 1) Try.underlying23 (by kernel_rfl) rfl rfl (by omega) (by omega) (by first | rfl | assumption | exact H.rsomen .zero (by omega) | exact H.rsomen (.succ .zero) (by omega) | exact H.rsomen (.succ (.succ .zero)) (by omega) | exact H.osomen .zero (by omega) | exact H.osomen (.succ .zero) (by omega) | exact H.osomen (.succ (.succ .zero)) (by omega)) rfl) H rfl ?_
          first | refine WG_take (i := 5) (listed' := [true, true, true, true, true, true, false, false, false, false, false, false, false, false]) rfl (by kernel_rfl) (fun w H => x_load (v := .int .i32 _) Try.underlying21 rfl rfl (H.cellAt .zero rfl)) H rfl ?_ | refine WG_take (i := 5) (listed' := [true, true, true, true, true, true, false, false, false, false, false, false, false, false]) rfl (by kernel_rfl) (fun w H => x_load (v := .int .i32 _) Try.underlying21 rfl rfl (H.cellAt (.succ .zero) rfl)) H rfl ?_ | refine WG_take (i := 5) (listed' := [true, true, true, true, true, true, false, false, false, false, false, false, false, false]) rfl (by kernel_rfl) (fun w H => x_load (v := .int .i32 _) Try.underlying21 rfl rfl (H.cellAt (.succ (.succ .zero)) rfl)) H rfl ?_ | refine WG_take (i := 5) (listed' := [true, true, true, true, true, true, false, false, false, false, false, false, false, false]) rfl (by kernel_rfl) (fun w H => x_load (v := .int .i32 _) Try.underlying21 rfl rfl (H.cellAt (.succ (.succ (.succ .zero))) rfl)) H rfl ?_ | refine WG_take (i := 5) (listed' := [true, true, true, true, true, true, false, false, false, false, false, false, false, false]) rfl (by kernel_rfl) (fun w H => x_load (v := .int .i32 _) Try.underlying21 rfl rfl (H.cellAt (.succ (.succ (.succ (.succ .zero)))) rfl)) H rfl ?_ | refine WG_take (i := 5) (listed' := [true, true, true, true, true, true, false, false, false, false, false, false, false, false]) rfl (by kernel_rfl) (fun w H => x_load Try.underlying21 rfl rfl (H.rnum .zero (by omega) (by omega))) H rfl ?_ | refine WG_take (i := 5) (listed' := [true, true, true, true, true, true, false, false, false, false, false, false, false, false]) rfl (by kernel_rfl) (fun w H => x_load Try.underlying21 rfl rfl (H.rnum (.succ .zero) (by omega) (by omega))) H rfl ?_ | refine WG_take (i := 5) (listed' := [true, true, true, true, true, true, false, false, false, false, false, false, false, false]) rfl (by kernel_rfl) (fun w H => x_load Try.underlying21 rfl rfl (H.rnum (.succ (.succ .zero)) (by omega) (by omega))) H rfl ?_ | refine WG_take (i := 5) (listed' := [true, true, true, true, true, true, false, false, false, false, false, false, false, false]) rfl (by kernel_rfl) (fun w H => x_load Try.underlying21 rfl rfl (H.onum .zero (by omega) (by omega))) H rfl ?_ | refine WG_take (i := 5) (listed' := [true, true, true, true, true, true, false, false, false, false, false, false, false, false]) rfl (by kernel_rfl) (fun w H => x_load Try.underlying21 rfl rfl (H.onum (.succ .zero) (by omega) (by omega))) H rfl ?_ | refine WG_take (i := 5) (listed' := [true, true, true, true, true, true, false, false, false, false, false, false, false, false]) rfl (by kernel_rfl) (fun w H => x_load Try.underlying21 rfl rfl (H.onum (.succ (.succ .zero)) (by omega) (by omega))) H rfl ?_
          refine WG_take (i := 6) (listed' := [true, true, true, true, true, true, true, false, false, false, false, false, false, false]) rfl (by kernel_rfl) (fun w H => x_move (v := .slice _ _ _) rfl) H rfl ?_
          refine WG_take (i := 7) (listed' := [true, true, true, true, true, true, true, true, false, false, false, false, false, false]) rfl (by kernel_rfl) (fun w H => x_move (v := .int .i64 _) rfl) H rfl ?_
          refine WG_take (i := 8) (listed' := [true, true, true, true, true, true, true, true, true, false, false, false, false, false]) rfl (by kernel_rfl) (fun w H => x_move (v := .int .i64 _) rfl) H rfl ?_
          refine WG_take (i := 9) (listed' := [true, true, true, true, true, true, true, true, true, true, false, false, false, false]) rfl (by kernel_rfl) (fun w H => x_binop rfl rfl (r_add_in (i64_in (by omega) (by omega)))) H rfl ?_
          refine WG_take (i := 10) (listed' := [true, true, true, true, true, true, true, true, true, true, true, false, false, false]) rfl (by kernel_rfl) (fun w H => x_indexAddr (s := 1) Try.underlying23 (by kernel_rfl) rfl rfl (by omega) (by omega) (by first | rfl | assumption | exact H.rsomen .zero (by omega) | exact H.rsomen (.succ .zero) (by omega) | exact H.rsomen (.succ (.succ .zero)) (by omega) | exact H.osomen .zero (by omega) | exact H.osomen (.succ .zero) (by omega) | exact H.osomen (.succ (.succ .zero)) (by omega)) rfl) H rfl ?_
          first | refine WG_take (i := 11) (listed' := [true, true, true, true, true, true, true, true, true, true, true, true, false, false]) rfl (by kernel_rfl) (fun w H => x_load (v := .int .i32 _) Try.underlying21 rfl rfl (H.cellAt .zero rfl)) H rfl ?_ | refine WG_take (i := 11) (listed' := [true, true, true, true, true, true, true, true, true, true, true, true, false, false]) rfl (by kernel_rfl) (fun w H => x_load (v := .int .i32 _) Try.underlying21 rfl rfl (H.cellAt (.succ .zero) rfl)) H rfl ?_ | refine WG_take (i := 11) (listed' := [true, true, true, true, true, true, true, true, true, true, true, true, false, false]) rfl (by kernel_rfl) (fun w H => x_load (v := .int .i32 _) Try.underlying21 rfl rfl (H.cellAt (.succ (.succ .zero)) rfl)) H rfl ?_ | refine WG_take (i := 11) (listed' := [true, true, true, true, true, true, true, true, true, true, true, true, false, false]) rfl (by kernel_rfl) (fun w H => x_load (v := .int .i32 _) Try.underlying21 rfl rfl (H.cellAt (.succ (.succ (.succ .zero))) rfl)) H rfl ?_ | refine WG_take (i := 11) (listed' := [true, true, true, true, true, true, true, true, true, true, true, true, false, false]) rfl (by kernel_rfl) (fun w H => x_load (v := .int .i32 _) Try.underlying21 rfl rfl (H.cellAt (.succ (.succ (.succ (.succ .zero)))) rfl)) H rfl ?_ | refine WG_take (i := 11) (listed' := [true, true, true, true, true, true, true, true, true, true, true, true, false, false]) rfl (by kernel_rfl) (fun w H => x_load Try.underlying21 rfl rfl (H.rnum .zero (by omega) (by omega))) H rfl ?_ | refine WG_take (i := 11) (listed' := [true, true, true, true, true, true, true, true, true, true, true, true, false, false]) rfl (by kernel_rfl) (fun w H => x_load Try.underlying21 rfl rfl (H.rnum (.succ .zero) (by omega) (by omega))) H rfl ?_ | refine WG_take (i := 11) (listed' := [true, true, true, true, true, true, true, true, true, true, true, true, false, false]) rfl (by kernel_rfl) (fun w H => x_load Try.underlying21 rfl rfl (H.rnum (.succ (.succ .zero)) (by omega) (by omega))) H rfl ?_ | refine WG_take (i := 11) (listed' := [true, true, true, true, true, true, true, true, true, true, true, true, false, false]) rfl (by kernel_rfl) (fun w H => x_load Try.underlying21 rfl rfl (H.onum .zero (by omega) (by omega))) H rfl ?_ | refine WG_take (i := 11) (listed' := [true, true, true, true, true, true, true, true, true, true, true, true, false, false]) rfl (by kernel_rfl) (fun w H => x_load Try.underlying21 rfl rfl (H.onum (.succ .zero) (by omega) (by omega))) H rfl ?_ | refine WG_take (i := 11) (listed' := [true, true, true, true, true, true, true, true, true, true, true, true, false, false]) rfl (by kernel_rfl) (fun w H => x_load Try.underlying21 rfl rfl (H.onum (.succ (.succ .zero)) (by omega) (by omega))) H rfl ?_
          refine WG_mid (i := 12) (listed' := [true, true, true, true, true, true, true, true, true, true, true, true, true, false]) rfl rfl (by kernel_rfl) rfl rfl ?_
          refine WL_call (vs := [.int .i32 _, .int .i32 _]) Try.func23 rfl rfl rfl (less_i32 _ _ _) ?_
          rintro _ w ⟨rfl, hf⟩
          refine ⟨_, rfl, ?_⟩
          replace H := H.quiet hf
          refine WL_nil ?_
          refine mid_mk H ?_
          refine WG_take (i := 13) (listed' := [true, true, true, true, true, true, true, true, true, true, true, true, true, true]) rfl (by kernel_rfl) (fun w H => x_not rfl) H rfl ?_
          refine WG_done (by kernel_rfl) ?_
          refine thenE_normal ?_
          refine WC_ifn rfl (fun h52 => ?_) (fun h52 => ?_)
          · have hR : Go.Sort.siftDown Go.Sort.ltInt hi first root M = M := by rw [hst, lt_no (i := first + root) (j := first + ch) h52 (by omega) (by omega)]; rfl
            refine WC_ret ?_
            refine thenE_ret ?_
            refine inBlockE_ret ?_
            refine thenE_ret ?_
            refine inBlockE_ret ?_
            refine ends0 Try.results28 ?_
            exact ⟨rfl, H.fr, by rw [← hS, hR]; exact H.ok _ List.mem_cons_self⟩
          · have hR2 : Go.Sort.siftDown Go.Sort.ltInt hi first root M = Go.Sort.siftDown Go.Sort.ltInt hi first ch (Go.Sort.swp M (first + root) (first + ch)) := by rw [hst, lt_yes (i := first + root) (j := first + ch) h52 (by omega) (by omega)]; rfl
            refine WC_skip ?_
            refine thenE_normal ?_
            refine WC_seq ?_
            refine WC_drawT (m := 24) (listed := [false, false, false, false, false, false, false, false, false, false, false, false, false, false, false, false, false, false, false, false, false, false, false, false]) (by kernel_rfl) rfl rfl H ?_
            intro w H
            refine WG_take (i := 4) (listed' := [false, false, false, false, true, false, false, false, false, false, false, false, false, false, false, false, false, false, false, false, false, false, false, false]) rfl (by kernel_rfl) (fun w _ => x_move (v := .slice _ _ _) rfl) trivial rfl ?_
            refine WG_take (i := 5) (listed' := [false, false, false, false, true, true, false, false, false, false, false, false, false, false, false, false, false, false, false, false, false, false, false, false]) rfl (by kernel_rfl) (fun w _ => x_move (v := .int .i64 _) rfl) trivial rfl ?_
            refine WG_take (i := 6) (listed' := [false, false, false, false, true, true, true, false, false, false, false, false, false, false, false, false, false, false, false, false, false, false, false, false]) rfl (by kernel_rfl) (fun w _ => x_move (v := .int .i64 _) rfl) trivial rfl ?_
            refine WG_take (i := 7) (listed' := [false, false, false, false, true, true, true, true, false, false, false, false, false, false, false, false, false, false, false, false, false, false, false, false]) rfl (by kernel_rfl) (fun w _ => x_binop rfl rfl (r_add_in (i64_in (by omega) (by omega)))) trivial rfl ?_
            refine WG_true (S := fun w => St W (row A c 21 1 n (nums .i32 d.toList)).fp [row A c 21 1 n (nums .i32 M.toList)] [] w) (n := 21) rfl ?_
            refine WG_take (i := 0) (listed' := [true, false, false, false, true, true, true, true, false, false, false, false, false, false, false, false, false, false, false, false, false, false, false, false]) rfl (by kernel_rfl) (fun w H => x_move (v := .slice _ _ _) rfl) H rfl ?_
            refine WG_take (i := 1) (listed' := [true, true, false, false, true, true, true, true, false, false, false, false, false, false, false, false, false, false, false, false, false, false, false, false]) rfl (by kernel_rfl) (fun w H => x_move (v := .int .i64 _) rfl) H rfl ?_
            refine WG_take (i := 2) (listed' := [true, true, true, false, true, true, true, true, false, false, false, false, false, false, false, false, false, false, false, false, false, false, false, false]) rfl (by kernel_rfl) (fun w H => x_move (v := .int .i64 _) rfl) H rfl ?_
            refine WG_take (i := 3) (listed' := [true, true, true, true, true, true, true, true, false, false, false, false, false, false, false, false, false, false, false, false, false, false, false, false]) rfl (by kernel_rfl) (fun w H => x_binop rfl rfl (r_add_in (i64_in (by omega) (by omega)))) H rfl ?_
            refine WG_take (i := 8) (listed' := [true, true, true, true, true, true, true, true, true, false, false, false, false, false, false, false, false, false, false, false, false, false, false, false]) rfl (by kernel_rfl) (fun w H => x_move (v := .slice _ _ _) rfl) H rfl ?_
            refine WG_take (i := 9) (listed' := [true, true, true, true, true, true, true, true, true, true, false, false, false, false, false, false, false, false, false, false, false, false, false, false]) rfl (by kernel_rfl) (fun w H => x_move (v := .int .i64 _) rfl) H rfl ?_
            refine WG_take (i := 10) (listed' := [true, true, true, true, true, true, true, true, true, true, true, false, false, false, false, false, false, false, false, false, false, false, false, false]) rfl (by kernel_rfl) (fun w H => x_move (v := .int .i64 _) rfl) H rfl ?_
            refine WG_take (i := 11) (listed' := [true, true, true, true, true, true, true, true, true, true, true, true, false, false, false, false, false, false, false, false, false, false, false, false]) rfl (by kernel_rfl) (fun w H => x_binop rfl rfl (r_add_in (i64_in (by omega) (by omega)))) H rfl ?_
            refine WG_take (i := 12) (listed' := [true, true, true, true, true, true, true, true, true, true, true, true, true, false, false, false, false, false, false, false, false, false, false, false]) rfl (by kernel_rfl) (fun w H => x_indexAddr (s := 1) Try.underlying23 (by kernel_rfl) rfl rfl (by omega) (by omega) (by first | rfl | assumption | exact H.rsomen .zero (by omega) | exact H.rsomen (.succ .zero) (by omega) | exact H.rsomen (.succ (.succ .zero)) (by omega) | exact H.osomen .zero (by omega) | exact H.osomen (.succ .zero) (by omega) | exact H.osomen (.succ (.succ .zero)) (by omega)) rfl) H rfl ?_
            first | refine WG_take (i := 13) (listed' := [true, true, true, true, true, true, true, true, true, true, true, true, true, true, false, false, false, false, false, false, false, false, false, false]) rfl (by kernel_rfl) (fun w H => x_load (v := .int .i32 _) Try.underlying21 rfl rfl (H.cellAt .zero rfl)) H rfl ?_ | refine WG_take (i := 13) (listed' := [true, true, true, true, true, true, true, true, true, true, true, true, true, true, false, false, false, false, false, false, false, false, false, false]) rfl (by kernel_rfl) (fun w H => x_load (v := .int .i32 _) Try.underlying21 rfl rfl (H.cellAt (.succ .zero) rfl)) H rfl ?_ | refine WG_take (i := 13) (listed' := [true, true, true, true, true, true, true, true, true, true, true, true, true, true, false, false, false, false, false, false, false, false, false, false]) rfl (by kernel_rfl) (fun w H => x_load (v := .int .i32 _) Try.underlying21 rfl rfl (H.cellAt (.succ (.succ .zero)) rfl)) H rfl ?_ | refine WG_take (i := 13) (listed' := [true, true, true, true, true, true, true, true, true, true, true, true, true, true, false, false, false, false, false, false, false, false, false, false]) rfl (by kernel_rfl) (fun w H => x_load (v := .int .i32 _) Try.underlying21 rfl rfl (H.cellAt (.succ (.succ (.succ .zero))) rfl)) H rfl ?_ | refine WG_take (i := 13) (listed' := [true, true, true, true, true, true, true, true, true, true, true, true, true, true, false, false, false, false, false, false, false, false, false, false]) rfl (by kernel_rfl) (fun w H => x_load (v := .int .i32 _) Try.underlying21 rfl rfl (H.cellAt (.succ (.succ (.succ (.succ .zero)))) rfl)) H rfl ?_ | refine WG_take (i := 13) (listed' := [true, true, true, true, true, true, true, true, true, true, true, true, true, true, false, false, false, false, false, false, false, false, false, false]) rfl (by kernel_rfl) (fun w H => x_load Try.underlying21 rfl rfl (H.rnum .zero (by omega) (by omega))) H rfl ?_ | refine WG_take (i := 13) (listed' := [true, true, true, true, true, true, true, true, true, true, true, true, true, true, false, false, false, false, false, false, false, false, false, false]) rfl (by kernel_rfl) (fun w H => x_load Try.underlying21 rfl rfl (H.rnum (.succ .zero) (by omega) (by omega))) H rfl ?_ | refine WG_take (i := 13) (listed' := [true, true, true, true, true, true, true, true, true, true, true, true, true, true, false, false, false, false, false, false, false, false, false, false]) rfl (by kernel_rfl) (fun w H => x_load Try.underlying21 rfl rfl (H.rnum (.succ (.succ .zero)) (by omega) (by omega))) H rfl ?_ | refine WG_take (i := 13) (listed' := [true, true, true, true, true, true, true, true, true, true, true, true, true, true, false, false, false, false, false, false, false, false, false, false]) rfl (by kernel_rfl) (fun w H => x_load Try.underlying21 rfl rfl (H.onum .zero (by omega) (by omega))) H rfl ?_ | refine WG_take (i := 13) (listed' := [true, true, true, true, true, true, true, true, true, true, true, true, true, true, false, false, false, false, false, false, false, false, false, false]) rfl (by kernel_rfl) (fun w H => x_load Try.underlying21 rfl rfl (H.onum (.succ .zero) (by omega) (by omega))) H rfl ?_ | refine WG_take (i := 13) (listed' := [true, true, true, true, true, true, true, true, true, true, true, true, true, true, false, false, false, false, false, false, false, false, false, false]) rfl (by kernel_rfl) (fun w H => x_load Try.underlying21 rfl rfl (H.onum (.succ (.succ .zero)) (by omega) (by omega))) H rfl ?_
            refine WG_take (i := 14) (listed' := [true, true, true, true, true, true, true, true, true, true, true, true, true, true, true, false, false, false, false, false, false, false, false, false]) rfl (by kernel_rfl) (fun w H => x_move (v := .slice _ _ _) rfl) H rfl ?_
            refine WG_take (i := 15) (listed' := [true, true, true, true, true, true, true, true, true, true, true, true, true, true, true, true, false, false, false, false, false, false, false, false]) rfl (by kernel_rfl) (fun w H => x_move (v := .int .i64 _) rfl) H rfl ?_
            refine WG_take (i := 16) (listed' := [true, true, true, true, true, true, true, true, true, true, true, true, true, true, true, true, true, false, false, false, false, false, false, false]) rfl (by kernel_rfl) (fun w H => x_move (v := .int .i64 _) rfl) H rfl ?_
            refine WG_take (i := 17) (listed' := [true, true, true, true, true, true, true, true, true, true, true, true, true, true, true, true, true, true, false, false, false, false, false, false]) rfl (by kernel_rfl) (fun w H => x_binop rfl rfl (r_add_in (i64_in (by omega) (by omega)))) H rfl ?_
            refine WG_take (i := 18) (listed' := [true, true, true, true, true, true, true, true, true, true, true, true, true, true, true, true, true, true, true, false, false, false, false, false]) rfl (by kernel_rfl) (fun w H => x_indexAddr (s := 1) Try.underlying23 (by kernel_rfl) rfl rfl (by omega) (by omega) (by first | rfl | assumption | exact H.rsomen .zero (by omega) | exact H.rsomen (.succ .zero) (by omega) | exact H.rsomen (.succ (.succ .zero)) (by omega) | exact H.osomen .zero (by omega) | exact H.osomen (.succ .zero) (by omega) | exact H.osomen (.succ (.succ .zero)) (by omega)) rfl) H rfl ?_
            first | refine WG_take (i := 19) (listed' := [true, true, true, true, true, true, true, true, true, true, true, true, true, true, true, true, true, true, true, true, false, false, false, false]) rfl (by kernel_rfl) (fun w H => x_load (v := .int .i32 _) Try.underlying21 rfl rfl (H.cellAt .zero rfl)) H rfl ?_ | refine WG_take (i := 19) (listed' := [true, true, true, true, true, true, true, true, true, true, true, true, true, true, true, true, true, true, true, true, false, false, false, false]) rfl (by kernel_rfl) (fun w H => x_load (v := .int .i32 _) Try.underlying21 rfl rfl (H.cellAt (.succ .zero) rfl)) H rfl ?_ | refine WG_take (i := 19) (listed' := [true, true, true, true, true, true, true, true, true, true, true, true, true, true, true, true, true, true, true, true, false, false, false, false]) rfl (by kernel_rfl) (fun w H => x_load (v := .int .i32 _) Try.underlying21 rfl rfl (H.cellAt (.succ (.succ .zero)) rfl)) H rfl ?_ | refine WG_take (i := 19) (listed' := [true, true, true, true, true, true, true, true, true, true, true, true, true, true, true, true, true, true, true, true, false, false, false, false]) rfl (by kernel_rfl) (fun w H => x_load (v := .int .i32 _) Try.underlying21 rfl rfl (H.cellAt (.succ (.succ (.succ .zero))) rfl)) H rfl ?_ | refine WG_take (i := 19) (listed' := [true, true, true, true, true, true, true, true, true, true, true, true, true, true, true, true, true, true, true, true, false, false, false, false]) rfl (by kernel_rfl) (fun w H => x_load (v := .int .i32 _) Try.underlying21 rfl rfl (H.cellAt (.succ (.succ (.succ (.succ .zero)))) rfl)) H rfl ?_ | refine WG_take (i := 19) (listed' := [true, true, true, true, true, true, true, true, true, true, true, true, true, true, true, true, true, true, true, true, false, false, false, false]) rfl (by kernel_rfl) (fun w H => x_load Try.underlying21 rfl rfl (H.rnum .zero (by omega) (by omega))) H rfl ?_ | refine WG_take (i := 19) (listed' := [true, true, true, true, true, true, true, true, true, true, true, true, true, true, true, true, true, true, true, true, false, false, false, false]) rfl (by kernel_rfl) (fun w H => x_load Try.underlying21 rfl rfl (H.rnum (.succ .zero) (by omega) (by omega))) H rfl ?_ | refine WG_take (i := 19) (listed' := [true, true, true, true, true, true, true, true, true, true, true, true, true, true, true, true, true, true, true, true, false, false, false, false]) rfl (by kernel_rfl) (fun w H => x_load Try.underlying21 rfl rfl (H.rnum (.succ (.succ .zero)) (by omega) (by omega))) H rfl ?_ | refine WG_take (i := 19) (listed' := [true, true, true, true, true, true, true, true, true, true, true, true, true, true, true, true, true, true, true, true, false, false, false, false]) rfl (by kernel_rfl) (fun w H => x_load Try.underlying21 rfl rfl (H.onum .zero (by omega) (by omega))) H rfl ?_ | refine WG_take (i := 19) (listed' := [true, true, true, true, true, true, true, true, true, true, true, true, true, true, true, true, true, true, true, true, false, false, false, false]) rfl (by kernel_rfl) (fun w H => x_load Try.underlying21 rfl rfl (H.onum (.succ .zero) (by omega) (by omega))) H rfl ?_ | refine WG_take (i := 19) (listed' := [true, true, true, true, true, true, true, true, true, true, true, true, true, true, true, true, true, true, true, true, false, false, false, false]) rfl (by kernel_rfl) (fun w H => x_load Try.underlying21 rfl rfl (H.onum (.succ (.succ .zero)) (by omega) (by omega))) H rfl ?_
            refine WG_take (i := 20) (listed' := [true, true, true, true, true, true, true, true, true, true, true, true, true, true, true, true, true, true, true, true, true, false, false, false]) rfl (by kernel_rfl) (fun w H => x_indexAddr (s := 1) Try.underlying23 (by kernel_rfl) rfl rfl (by omega) (by omega) (by first | rfl | assumption | exact H.rsomen .zero (by omega) | exact H.rsomen (.succ .zero) (by omega) | exact H.rsomen (.succ (.succ .zero)) (by omega) | exact H.osomen .zero (by omega) | exact H.osomen (.succ .zero) (by omega) | exact H.osomen (.succ (.succ .zero)) (by omega)) rfl) H rfl ?_
            refine WG_next (fun w => St W (row A c 21 1 n (nums .i32 d.toList)).fp [row A c 21 1 n (nums .i32 (M.setIfInBounds (first + root) M[(first + ch)]!).toList)] [] w) 23 (listed' := [true, true, true, true, true, true, true, true, true, true, true, true, true, true, true, true, true, true, true, true, true, true, false, false]) rfl rfl (by kernel_rfl) rfl ?_
            refine WL_storeR (v := .int .i32 _) (o := (first + root)) (n := n) (xs := nums .i32 M.toList) (xs' := nums .i32 (M.setIfInBounds (first + root) M[(first + ch)]!).toList) Try.underlying21 rfl rfl rfl rfl (by kernel_rfl) (by omega) H .zero (by rw [nums_length]; omega) (nums_setA _ _ _ (nth_at (by omega))) ?_
            clear H; intro w H
            refine WL_nil ?_
            refine nx_mk ?_
            refine WG_take (i := 22) (listed' := [true, true, true, true, true, true, true, true, true, true, true, true, true, true, true, true, true, true, true, true, true, true, true, false]) rfl (by kernel_rfl) (fun w H => x_indexAddr (s := 1) Try.underlying23 (by kernel_rfl) rfl rfl (by omega) (by omega) (H.osomen .zero (by rw [len_setA]; omega)) rfl) H rfl ?_
            refine WG_fin (listed' := [true, true, true, true, true, true, true, true, true, true, true, true, true, true, true, true, true, true, true, true, true, true, true, true]) rfl rfl (by kernel_rfl) rfl (by kernel_rfl) ?_
            refine WL_storeR (v := .int .i32 _) (o := (first + ch)) (n := n) (xs := nums .i32 (M.setIfInBounds (first + root) M[(first + ch)]!).toList) (xs' := nums .i32 (Go.Sort.swp M (first + root) (first + ch)).toList) Try.underlying21 rfl rfl rfl rfl (by kernel_rfl) (by omega) H .zero (by rw [nums_length, len_setA]; omega) (nums_setA _ _ _ (nth_at (by omega))) ?_
            clear H; intro w H
            have hM2 : (Go.Sort.swp M (first + root) (first + ch)).toList.length = n := by rw [len_swp]; exact hM
            refine WL_nil ?_
            refine fin_mk ?_
            refine thenE_normal ?_
            refine WC_region ?_
            refine WL_x (x_move (v := .int .i64 _) rfl) ?_
            refine WL_x (x_assign (v := .int .i64 _) rfl) ?_
            refine WL_nil ?_
            refine inBlockE_normal ?_
            refine thenE_normal ?_
            exact ⟨(ch, Go.Sort.swp M (first + root) (first + ch)), ⟨by simp only; omega, hM2, by simp only; rw [← hR2]; exact hS, (congrArg (Value.int .i64) (by first | omega | rfl | (simp only; omega))), rfl, rfl, rfl, H⟩, by simp only; omega⟩
      · obtain ⟨ch, hch⟩ : ∃ ch : Nat, ch = 2 * root + 1 := ⟨_, rfl⟩
        have hchlt : ch < hi := by omega
        have hst := sift_one (first := first) (d := M) hch hchlt (fun hh => absurd hh.1 (by omega))
        refine WG_skip (i := 5) (listed' := [true, true, true, true, true, true, false, false, false, false, false, false, false, false, false, false, false, false, false, false]) rfl (by kernel_rfl) rfl rfl rfl H rfl ?_
        refine WG_skip (i := 6) (listed' := [true, true, true, true, true, true, true, false, false, false, false, false, false, false, false, false, false, false, false, false]) rfl (by kernel_rfl) rfl rfl rfl H rfl ?_
        refine WG_skip (i := 7) (listed' := [true, true, true, true, true, true, true, true, false, false, false, false, false, false, false, false, false, false, false, false]) rfl (by kernel_rfl) rfl rfl rfl H rfl ?_
        refine WG_skip (i := 8) (listed' := [true, true, true, true, true, true, true, true, true, false, false, false, false, false, false, false, false, false, false, false]) rfl (by kernel_rfl) rfl rfl rfl H rfl ?_
        refine WG_skip (i := 9) (listed' := [true, true, true, true, true, true, true, true, true, true, false, false, false, false, false, false, false, false, false, false]) rfl (by kernel_rfl) rfl rfl rfl H rfl ?_
        refine WG_skip (i := 10) (listed' := [true, true, true, true, true, true, true, true, true, true, true, false, false, false, false, false, false, false, false, false]) rfl (by kernel_rfl) rfl rfl rfl H rfl ?_
        refine WG_skip (i := 11) (listed' := [true, true, true, true, true, true, true, true, true, true, true, true, false, false, false, false, false, false, false, false]) rfl (by kernel_rfl) rfl rfl rfl H rfl ?_
        refine WG_skip (i := 12) (listed' := [true, true, true, true, true, true, true, true, true, true, true, true, true, false, false, false, false, false, false, false]) rfl (by kernel_rfl) rfl rfl rfl H rfl ?_
        refine WG_skip (i := 13) (listed' := [true, true, true, true, true, true, true, true, true, true, true, true, true, true, false, false, false, false, false, false]) rfl (by kernel_rfl) rfl rfl rfl H rfl ?_
        refine WG_skip (i := 14) (listed' := [true, true, true, true, true, true, true, true, true, true, true, true, true, true, true, false, false, false, false, false]) rfl (by kernel_rfl) rfl rfl rfl H rfl ?_
        refine WG_skip (i := 15) (listed' := [true, true, true, true, true, true, true, true, true, true, true, true, true, true, true, true, false, false, false, false]) rfl (by kernel_rfl) rfl rfl rfl H rfl ?_
        refine WG_skip (i := 16) (listed' := [true, true, true, true, true, true, true, true, true, true, true, true, true, true, true, true, true, false, false, false]) rfl (by kernel_rfl) rfl rfl rfl H rfl ?_
        refine WG_skip (i := 17) (listed' := [true, true, true, true, true, true, true, true, true, true, true, true, true, true, true, true, true, true, false, false]) rfl (by kernel_rfl) rfl rfl rfl H rfl ?_
        refine WG_skip (i := 18) (listed' := [true, true, true, true, true, true, true, true, true, true, true, true, true, true, true, true, true, true, true, false]) rfl (by kernel_rfl) rfl rfl rfl H rfl ?_
        refine WG_take (i := 19) (listed' := [true, true, true, true, true, true, true, true, true, true, true, true, true, true, true, true, true, true, true, true]) rfl (by kernel_rfl) (fun w H => x_pick (v := .bool _) rfl rfl) H rfl ?_
        refine WG_done (by kernel_rfl) ?_
        refine thenE_normal ?_
        refine WC_no rfl ?_
        refine WC_skip ?_
        refine thenE_normal ?_
        refine WC_seq ?_
        refine WC_seq ?_
        refine WC_drawH (m := 14) (listed := [false, false, false, false, false, false, false, false, false, false, false, false, false, false]) 14 (by kernel_rfl) rfl rfl H ?_
        intro w H
        refine WG_take (i := 0) (listed' := [true, false, false, false, false, false, false, false, false, false, false, false, false, false]) rfl (by kernel_rfl) (fun w H => x_move (v := .slice _ _ _) rfl) H rfl ?_
        refine WG_take (i := 1) (listed' := [true, true, false, false, false, false, false, false, false, false, false, false, false, false]) rfl (by kernel_rfl) (fun w H => x_move (v := .int .i64 _) rfl) H rfl ?_
        refine WG_take (i := 2) (listed' := [true, true, true, false, false, false, false, false, false, false, false, false, false, false]) rfl (by kernel_rfl) (fun w H => x_move (v := .int .i64 _) rfl) H rfl ?_
        refine WG_take (i := 3) (listed' := [true, true, true, true, false, false, false, false, false, false, false, false, false, false]) rfl (by kernel_rfl) (fun w H => x_binop rfl rfl (r_add_in (i64_in (by omega) (by omega)))) H rfl ?_
        refine WG_take (i := 4) (listed' := [true, true, true, true, true, false, false, false, false, false, false, false, false, false]) rfl (by kernel_rfl) (fun w H => x_indexAddr (s := 1) Try.underlying23 (by kernel_rfl) rfl rfl (by omega) (by omega) (by first | rfl | assumption | exact H.rsomen .zero (by omega) | exact H.rsomen (.succ .zero) (by omega) | exact H.rsomen (.succ (.succ .zero)) (by omega) | exact H.osomen .zero (by omega) | exact H.osomen (.succ .zero) (by omega) | exact H.osomen (.succ (.succ .zero)) (by omega)) rfl) H rfl ?_
        first | refine WG_take (i := 5) (listed' := [true, true, true, true, true, true, false, false, false, false, false, false, false, false]) rfl (by kernel_rfl) (fun w H => x_load (v := .int .i32 _) Try.underlying21 rfl rfl (H.cellAt .zero rfl)) H rfl ?_ | refine WG_take (i := 5) (listed' := [true, true, true, true, true, true, false, false, false, false, false, false, false, false]) rfl (by kernel_rfl) (fun w H => x_load (v := .int .i32 _) Try.underlying21 rfl rfl (H.cellAt (.succ .zero) rfl)) H rfl ?_ | refine WG_take (i := 5) (listed' := [true, true, true, true, true, true, false, false, false, false, false, false, false, false]) rfl (by kernel_rfl) (fun w H => x_load (v := .int .i32 _) Try.underlying21 rfl rfl (H.cellAt (.succ (.succ .zero)) rfl)) H rfl ?_ | refine WG_take (i := 5) (listed' := [true, true, true, true, true, true, false, false, false, false, false, false, false, false]) rfl (by kernel_rfl) (fun w H => x_load (v := .int .i32 _) Try.underlying21 rfl rfl (H.cellAt (.succ (.succ (.succ .zero))) rfl)) H rfl ?_ | refine WG_take (i := 5) (listed' := [true, true, true, true, true, true, false, false, false, false, false, false, false, false]) rfl (by kernel_rfl) (fun w H => x_load (v := .int .i32 _) Try.underlying21 rfl rfl (H.cellAt (.succ (.succ (.succ (.succ .zero)))) rfl)) H rfl ?_ | refine WG_take (i := 5) (listed' := [true, true, true, true, true, true, false, false, false, false, false, false, false, false]) rfl (by kernel_rfl) (fun w H => x_load Try.underlying21 rfl rfl (H.rnum .zero (by omega) (by omega))) H rfl ?_ | refine WG_take (i := 5) (listed' := [true, true, true, true, true, true, false, false, false, false, false, false, false, false]) rfl (by kernel_rfl) (fun w H => x_load Try.underlying21 rfl rfl (H.rnum (.succ .zero) (by omega) (by omega))) H rfl ?_ | refine WG_take (i := 5) (listed' := [true, true, true, true, true, true, false, false, false, false, false, false, false, false]) rfl (by kernel_rfl) (fun w H => x_load Try.underlying21 rfl rfl (H.rnum (.succ (.succ .zero)) (by omega) (by omega))) H rfl ?_ | refine WG_take (i := 5) (listed' := [true, true, true, true, true, true, false, false, false, false, false, false, false, false]) rfl (by kernel_rfl) (fun w H => x_load Try.underlying21 rfl rfl (H.onum .zero (by omega) (by omega))) H rfl ?_ | refine WG_take (i := 5) (listed' := [true, true, true, true, true, true, false, false, false, false, false, false, false, false]) rfl (by kernel_rfl) (fun w H => x_load Try.underlying21 rfl rfl (H.onum (.succ .zero) (by omega) (by omega))) H rfl ?_ | refine WG_take (i := 5) (listed' := [true, true, true, true, true, true, false, false, false, false, false, false, false, false]) rfl (by kernel_rfl) (fun w H => x_load Try.underlying21 rfl rfl (H.onum (.succ (.succ .zero)) (by omega) (by omega))) H rfl ?_
        refine WG_take (i := 6) (listed' := [true, true, true, true, true, true, true, false, false, false, false, false, false, false]) rfl (by kernel_rfl) (fun w H => x_move (v := .slice _ _ _) rfl) H rfl ?_
        refine WG_take (i := 7) (listed' := [true, true, true, true, true, true, true, true, false, false, false, false, false, false]) rfl (by kernel_rfl) (fun w H => x_move (v := .int .i64 _) rfl) H rfl ?_
        refine WG_take (i := 8) (listed' := [true, true, true, true, true, true, true, true, true, false, false, false, false, false]) rfl (by kernel_rfl) (fun w H => x_move (v := .int .i64 _) rfl) H rfl ?_
        refine WG_take (i := 9) (listed' := [true, true, true, true, true, true, true, true, true, true, false, false, false, false]) rfl (by kernel_rfl) (fun w H => x_binop rfl rfl (r_add_in (i64_in (by omega) (by omega)))) H rfl ?_
        refine WG_take (i := 10) (listed' := [true, true, true, true, true, true, true, true, true, true, true, false, false, false]) rfl (by kernel_rfl) (fun w H => x_indexAddr (s := 1) Try.underlying23 (by kernel_rfl) rfl rfl (by omega) (by omega) (by first | rfl | assumption | exact H.rsomen .zero (by omega) | exact H.rsomen (.succ .zero) (by omega) | exact H.rsomen (.succ (.succ .zero)) (by omega) | exact H.osomen .zero (by omega) | exact H.osomen (.succ .zero) (by omega) | exact H.osomen (.succ (.succ .zero)) (by omega)) rfl) H rfl ?_
        first | refine WG_take (i := 11) (listed' := [true, true, true, true, true, true, true, true, true, true, true, true, false, false]) rfl (by kernel_rfl) (fun w H => x_load (v := .int .i32 _) Try.underlying21 rfl rfl (H.cellAt .zero rfl)) H rfl ?_ | refine WG_take (i := 11) (listed' := [true, true, true, true, true, true, true, true, true, true, true, true, false, false]) rfl (by kernel_rfl) (fun w H => x_load (v := .int .i32 _) Try.underlying21 rfl rfl (H.cellAt (.succ .zero) rfl)) H rfl ?_ | refine WG_take (i := 11) (listed' := [true, true, true, true, true, true, true, true, true, true, true, true, false, false]) rfl (by kernel_rfl) (fun w H => x_load (v := .int .i32 _) Try.underlying21 rfl rfl (H.cellAt (.succ (.succ .zero)) rfl)) H rfl ?_ | refine WG_take (i := 11) (listed' := [true, true, true, true, true, true, true, true, true, true, true, true, false, false]) rfl (by kernel_rfl) (fun w H => x_load (v := .int .i32 _) Try.underlying21 rfl rfl (H.cellAt (.succ (.succ (.succ .zero))) rfl)) H rfl ?_ | refine WG_take (i := 11) (listed' := [true, true, true, true, true, true, true, true, true, true, true, true, false, false]) rfl (by kernel_rfl) (fun w H => x_load (v := .int .i32 _) Try.underlying21 rfl rfl (H.cellAt (.succ (.succ (.succ (.succ .zero)))) rfl)) H rfl ?_ | refine WG_take (i := 11) (listed' := [true, true, true, true, true, true, true, true, true, true, true, true, false, false]) rfl (by kernel_rfl) (fun w H => x_load Try.underlying21 rfl rfl (H.rnum .zero (by omega) (by omega))) H rfl ?_ | refine WG_take (i := 11) (listed' := [true, true, true, true, true, true, true, true, true, true, true, true, false, false]) rfl (by kernel_rfl) (fun w H => x_load Try.underlying21 rfl rfl (H.rnum (.succ .zero) (by omega) (by omega))) H rfl ?_ | refine WG_take (i := 11) (listed' := [true, true, true, true, true, true, true, true, true, true, true, true, false, false]) rfl (by kernel_rfl) (fun w H => x_load Try.underlying21 rfl rfl (H.rnum (.succ (.succ .zero)) (by omega) (by omega))) H rfl ?_ | refine WG_take (i := 11) (listed' := [true, true, true, true, true, true, true, true, true, true, true, true, false, false]) rfl (by kernel_rfl) (fun w H => x_load Try.underlying21 rfl rfl (H.onum .zero (by omega) (by omega))) H rfl ?_ | refine WG_take (i := 11) (listed' := [true, true, true, true, true, true, true, true, true, true, true, true, false, false]) rfl (by kernel_rfl) (fun w H => x_load Try.underlying21 rfl rfl (H.onum (.succ .zero) (by omega) (by omega))) H rfl ?_ | refine WG_take (i := 11) (listed' := [true, true, true, true, true, true, true, true, true, true, true, true, false, false]) rfl (by kernel_rfl) (fun w H => x_load Try.underlying21 rfl rfl (H.onum (.succ (.succ .zero)) (by omega) (by omega))) H rfl ?_
        refine WG_mid (i := 12) (listed' := [true, true, true, true, true, true, true, true, true, true, true, true, true, false]) rfl rfl (by kernel_rfl) rfl rfl ?_
        refine WL_call (vs := [.int .i32 _, .int .i32 _]) Try.func23 rfl rfl rfl (less_i32 _ _ _) ?_
        rintro _ w ⟨rfl, hf⟩
        refine ⟨_, rfl, ?_⟩
        replace H := H.quiet hf
        refine WL_nil ?_
        refine mid_mk H ?_
        refine WG_take (i := 13) (listed' := [true, true, true, true, true, true, true, true, true, true, true, true, true, true]) rfl (by kernel_rfl) (fun w H => x_not rfl) H rfl ?_
        refine WG_done (by kernel_rfl) ?_
        refine thenE_normal ?_
        refine WC_ifn rfl (fun h52 => ?_) (fun h52 => ?_)
        · have hR : Go.Sort.siftDown Go.Sort.ltInt hi first root M = M := by rw [hst, lt_no (i := first + root) (j := first + ch) h52 (by omega) (by omega)]; rfl
          refine WC_ret ?_
          refine thenE_ret ?_
          refine inBlockE_ret ?_
          refine thenE_ret ?_
          refine inBlockE_ret ?_
          refine ends0 Try.results28 ?_
          exact ⟨rfl, H.fr, by rw [← hS, hR]; exact H.ok _ List.mem_cons_self⟩
        · have hR2 : Go.Sort.siftDown Go.Sort.ltInt hi first root M = Go.Sort.siftDown Go.Sort.ltInt hi first ch (Go.Sort.swp M (first + root) (first + ch)) := by rw [hst, lt_yes (i := first + root) (j := first + ch) h52 (by omega) (by omega)]; rfl
          refine WC_skip ?_
          refine thenE_normal ?_
          refine WC_seq ?_
          refine WC_drawT (m := 24) (listed := [false, false, false, false, false, false, false, false, false, false, false, false, false, false, false, false, false, false, false, false, false, false, false, false]) (by kernel_rfl) rfl rfl H ?_
          intro w H
          refine WG_take (i := 4) (listed' := [false, false, false, false, true, false, false, false, false, false, false, false, false, false, false, false, false, false, false, false, false, false, false, false]) rfl (by kernel_rfl) (fun w _ => x_move (v := .slice _ _ _) rfl) trivial rfl ?_
          refine WG_take (i := 5) (listed' := [false, false, false, false, true, true, false, false, false, false, false, false, false, false, false, false, false, false, false, false, false, false, false, false]) rfl (by kernel_rfl) (fun w _ => x_move (v := .int .i64 _) rfl) trivial rfl ?_
          refine WG_take (i := 6) (listed' := [false, false, false, false, true, true, true, false, false, false, false, false, false, false, false, false, false, false, false, false, false, false, false, false]) rfl (by kernel_rfl) (fun w _ => x_move (v := .int .i64 _) rfl) trivial rfl ?_
          refine WG_take (i := 7) (listed' := [false, false, false, false, true, true, true, true, false, false, false, false, false, false, false, false, false, false, false, false, false, false, false, false]) rfl (by kernel_rfl) (fun w _ => x_binop rfl rfl (r_add_in (i64_in (by omega) (by omega)))) trivial rfl ?_
          refine WG_true (S := fun w => St W (row A c 21 1 n (nums .i32 d.toList)).fp [row A c 21 1 n (nums .i32 M.toList)] [] w) (n := 21) rfl ?_
          refine WG_take (i := 0) (listed' := [true, false, false, false, true, true, true, true, false, false, false, false, false, false, false, false, false, false, false, false, false, false, false, false]) rfl (by kernel_rfl) (fun w H => x_move (v := .slice _ _ _) rfl) H rfl ?_
          refine WG_take (i := 1) (listed' := [true, true, false, false, true, true, true, true, false, false, false, false, false, false, false, false, false, false, false, false, false, false, false, false]) rfl (by kernel_rfl) (fun w H => x_move (v := .int .i64 _) rfl) H rfl ?_
          refine WG_take (i := 2) (listed' := [true, true, true, false, true, true, true, true, false, false, false, false, false, false, false, false, false, false, false, false, false, false, false, false]) rfl (by kernel_rfl) (fun w H => x_move (v := .int .i64 _) rfl) H rfl ?_
          refine WG_take (i := 3) (listed' := [true, true, true, true, true, true, true, true, false, false, false, false, false, false, false, false, false, false, false, false, false, false, false, false]) rfl (by kernel_rfl) (fun w H => x_binop rfl rfl (r_add_in (i64_in (by omega) (by omega)))) H rfl ?_
          refine WG_take (i := 8) (listed' := [true, true, true, true, true, true, true, true, true, false, false, false, false, false, false, false, false, false, false, false, false, false, false, false]) rfl (by kernel_rfl) (fun w H => x_move (v := .slice _ _ _) rfl) H rfl ?_
          refine WG_take (i := 9) (listed' := [true, true, true, true, true, true, true, true, true, true, false, false, false, false, false, false, false, false, false, false, false, false, false, false]) rfl (by kernel_rfl) (fun w H => x_move (v := .int .i64 _) rfl) H rfl ?_
          refine WG_take (i := 10) (listed' := [true, true, true, true, true, true, true, true, true, true, true, false, false, false, false, false, false, false, false, false, false, false, false, false]) rfl (by kernel_rfl) (fun w H => x_move (v := .int .i64 _) rfl) H rfl ?_
          refine WG_take (i := 11) (listed' := [true, true, true, true, true, true, true, true, true, true, true, true, false, false, false, false, false, false, false, false, false, false, false, false]) rfl (by kernel_rfl) (fun w H => x_binop rfl rfl (r_add_in (i64_in (by omega) (by omega)))) H rfl ?_
          refine WG_take (i := 12) (listed' := [true, true, true, true, true, true, true, true, true, true, true, true, true, false, false, false, false, false, false, false, false, false, false, false]) rfl (by kernel_rfl) (fun w H => x_indexAddr (s := 1) Try.underlying23 (by kernel_rfl) rfl rfl (by omega) (by omega) (by first | rfl | assumption | exact H.rsomen .zero (by omega) | exact H.rsomen (.succ .zero) (by omega) | exact H.rsomen (.succ (.succ .zero)) (by omega) | exact H.osomen .zero (by omega) | exact H.osomen (.succ .zero) (by omega) | exact H.osomen (.succ (.succ .zero)) (by omega)) rfl) H rfl ?_
          first | refine WG_take (i := 13) (listed' := [true, true, true, true, true, true, true, true, true, true, true, true, true, true, false, false, false, false, false, false, false, false, false, false]) rfl (by kernel_rfl) (fun w H => x_load (v := .int .i32 _) Try.underlying21 rfl rfl (H.cellAt .zero rfl)) H rfl ?_ | refine WG_take (i := 13) (listed' := [true, true, true, true, true, true, true, true, true, true, true, true, true, true, false, false, false, false, false, false, false, false, false, false]) rfl (by kernel_rfl) (fun w H => x_load (v := .int .i32 _) Try.underlying21 rfl rfl (H.cellAt (.succ .zero) rfl)) H rfl ?_ | refine WG_take (i := 13) (listed' := [true, true, true, true, true, true, true, true, true, true, true, true, true, true, false, false, false, false, false, false, false, false, false, false]) rfl (by kernel_rfl) (fun w H => x_load (v := .int .i32 _) Try.underlying21 rfl rfl (H.cellAt (.succ (.succ .zero)) rfl)) H rfl ?_ | refine WG_take (i := 13) (listed' := [true, true, true, true, true, true, true, true, true, true, true, true, true, true, false, false, false, false, false, false, false, false, false, false]) rfl (by kernel_rfl) (fun w H => x_load (v := .int .i32 _) Try.underlying21 rfl rfl (H.cellAt (.succ (.succ (.succ .zero))) rfl)) H rfl ?_ | refine WG_take (i := 13) (listed' := [true, true, true, true, true, true, true, true, true, true, true, true, true, true, false, false, false, false, false, false, false, false, false, false]) rfl (by kernel_rfl) (fun w H => x_load (v := .int .i32 _) Try.underlying21 rfl rfl (H.cellAt (.succ (.succ (.succ (.succ .zero)))) rfl)) H rfl ?_ | refine WG_take (i := 13) (listed' := [true, true, true, true, true, true, true, true, true, true, true, true, true, true, false, false, false, false, false, false, false, false, false, false]) rfl (by kernel_rfl) (fun w H => x_load Try.underlying21 rfl rfl (H.rnum .zero (by omega) (by omega))) H rfl ?_ | refine WG_take (i := 13) (listed' := [true, true, true, true, true, true, true, true, true, true, true, true, true, true, false, false, false, false, false, false, false, false, false, false]) rfl (by kernel_rfl) (fun w H => x_load Try.underlying21 rfl rfl (H.rnum (.succ .zero) (by omega) (by omega))) H rfl ?_ | refine WG_take (i := 13) (listed' := [true, true, true, true, true, true, true, true, true, true, true, true, true, true, false, false, false, false, false, false, false, false, false, false]) rfl (by kernel_rfl) (fun w H => x_load Try.underlying21 rfl rfl (H.rnum (.succ (.succ .zero)) (by omega) (by omega))) H rfl ?_ | refine WG_take (i := 13) (listed' := [true, true, true, true, true, true, true, true, true, true, true, true, true, true, false, false, false, false, false, false, false, false, false, false]) rfl (by kernel_rfl) (fun w H => x_load Try.underlying21 rfl rfl (H.onum .zero (by omega) (by omega))) H rfl ?_ | refine WG_take (i := 13) (listed' := [true, true, true, true, true, true, true, true, true, true, true, true, true, true, false, false, false, false, false, false, false, false, false, false]) rfl (by kernel_rfl) (fun w H => x_load Try.underlying21 rfl rfl (H.onum (.succ .zero) (by omega) (by omega))) H rfl ?_ | refine WG_take (i := 13) (listed' := [true, true, true, true, true, true, true, true, true, true, true, true, true, true, false, false, false, false, false, false, false, false, false, false]) rfl (by kernel_rfl) (fun w H => x_load Try.underlying21 rfl rfl (H.onum (.succ (.succ .zero)) (by omega) (by omega))) H rfl ?_
          refine WG_take (i := 14) (listed' := [true, true, true, true, true, true, true, true, true, true, true, true, true, true, true, false, false, false, false, false, false, false, false, false]) rfl (by kernel_rfl) (fun w H => x_move (v := .slice _ _ _) rfl) H rfl ?_
          refine WG_take (i := 15) (listed' := [true, true, true, true, true, true, true, true, true, true, true, true, true, true, true, true, false, false, false, false, false, false, false, false]) rfl (by kernel_rfl) (fun w H => x_move (v := .int .i64 _) rfl) H rfl ?_
          refine WG_take (i := 16) (listed' := [true, true, true, true, true, true, true, true, true, true, true, true, true, true, true, true, true, false, false, false, false, false, false, false]) rfl (by kernel_rfl) (fun w H => x_move (v := .int .i64 _) rfl) H rfl ?_
          refine WG_take (i := 17) (listed' := [true, true, true, true, true, true, true, true, true, true, true, true, true, true, true, true, true, true, false, false, false, false, false, false]) rfl (by kernel_rfl) (fun w H => x_binop rfl rfl (r_add_in (i64_in (by omega) (by omega)))) H rfl ?_
          refine WG_take (i := 18) (listed' := [true, true, true, true, true, true, true, true, true, true, true, true, true, true, true, true, true, true, true, false, false, false, false, false]) rfl (by kernel_rfl) (fun w H => x_indexAddr (s := 1) Try.underlying23 (by kernel_rfl) rfl rfl (by omega) (by omega) (by first | rfl | assumption | exact H.rsomen .zero (by omega) | exact H.rsomen (.succ .zero) (by omega) | exact H.rsomen (.succ (.succ .zero)) (by omega) | exact H.osomen .zero (by omega) | exact H.osomen (.succ .zero) (by omega) | exact H.osomen (.succ (.succ .zero)) (by omega)) rfl) H rfl ?_
          first | refine WG_take (i := 19) (listed' := [true, true, true, true, true, true, true, true, true, true, true, true, true, true, true, true, true, true, true, true, false, false, false, false]) rfl (by kernel_rfl) (fun w H => x_load (v := .int .i32 _) Try.underlying21 rfl rfl (H.cellAt .zero rfl)) H rfl ?_ | refine WG_take (i := 19) (listed' := [true, true, true, true, true, true, true, true, true, true, true, true, true, true, true, true, true, true, true, true, false, false, false, false]) rfl (by kernel_rfl) (fun w H => x_load (v := .int .i32 _) Try.underlying21 rfl rfl (H.cellAt (.succ .zero) rfl)) H rfl ?_ | refine WG_take (i := 19) (listed' := [true, true, true, true, true, true, true, true, true, true, true, true, true, true, true, true, true, true, true, true, false, false, false, false]) rfl (by kernel_rfl) (fun w H => x_load (v := .int .i32 _) Try.underlying21 rfl rfl (H.cellAt (.succ (.succ .zero)) rfl)) H rfl ?_ | refine WG_take (i := 19) (listed' := [true, true, true, true, true, true, true, true, true, true, true, true, true, true, true, true, true, true, true, true, false, false, false, false]) rfl (by kernel_rfl) (fun w H => x_load (v := .int .i32 _) Try.underlying21 rfl rfl (H.cellAt (.succ (.succ (.succ .zero))) rfl)) H rfl ?_ | refine WG_take (i := 19) (listed' := [true, true, true, true, true, true, true, true, true, true, true, true, true, true, true, true, true, true, true, true, false, false, false, false]) rfl (by kernel_rfl) (fun w H => x_load (v := .int .i32 _) Try.underlying21 rfl rfl (H.cellAt (.succ (.succ (.succ (.succ .zero)))) rfl)) H rfl ?_ | refine WG_take (i := 19) (listed' := [true, true, true, true, true, true, true, true, true, true, true, true, true, true, true, true, true, true, true, true, false, false, false, false]) rfl (by kernel_rfl) (fun w H => x_load Try.underlying21 rfl rfl (H.rnum .zero (by omega) (by omega))) H rfl ?_ | refine WG_take (i := 19) (listed' := [true, true, true, true, true, true, true, true, true, true, true, true, true, true, true, true, true, true, true, true, false, false, false, false]) rfl (by kernel_rfl) (fun w H => x_load Try.underlying21 rfl rfl (H.rnum (.succ .zero) (by omega) (by omega))) H rfl ?_ | refine WG_take (i := 19) (listed' := [true, true, true, true, true, true, true, true, true, true, true, true, true, true, true, true, true, true, true, true, false, false, false, false]) rfl (by kernel_rfl) (fun w H => x_load Try.underlying21 rfl rfl (H.rnum (.succ (.succ .zero)) (by omega) (by omega))) H rfl ?_ | refine WG_take (i := 19) (listed' := [true, true, true, true, true, true, true, true, true, true, true, true, true, true, true, true, true, true, true, true, false, false, false, false]) rfl (by kernel_rfl) (fun w H => x_load Try.underlying21 rfl rfl (H.onum .zero (by omega) (by omega))) H rfl ?_ | refine WG_take (i := 19) (listed' := [true, true, true, true, true, true, true, true, true, true, true, true, true, true, true, true, true, true, true, true, false, false, false, false]) rfl (by kernel_rfl) (fun w H => x_load Try.underlying21 rfl rfl (H.onum (.succ .zero) (by omega) (by omega))) H rfl ?_ | refine WG_take (i := 19) (listed' := [true, true, true, true, true, true, true, true, true, true, true, true, true, true, true, true, true, true, true, true, false, false, false, false]) rfl (by kernel_rfl) (fun w H => x_load Try.underlying21 rfl rfl (H.onum (.succ (.succ .zero)) (by omega) (by omega))) H rfl ?_
          refine WG_take (i := 20) (listed' := [true, true, true, true, true, true, true, true, true, true, true, true, true, true, true, true, true, true, true, true, true, false, false, false]) rfl (by kernel_rfl) (fun w H => x_indexAddr (s := 1) Try.underlying23 (by kernel_rfl) rfl rfl (by omega) (by omega) (by first | rfl | assumption | exact H.rsomen .zero (by omega) | exact H.rsomen (.succ .zero) (by omega) | exact H.rsomen (.succ (.succ .zero)) (by omega) | exact H.osomen .zero (by omega) | exact H.osomen (.succ .zero) (by omega) | exact H.osomen (.succ (.succ .zero)) (by omega)) rfl) H rfl ?_
          refine WG_next (fun w => St W (row A c 21 1 n (nums .i32 d.toList)).fp [row A c 21 1 n (nums .i32 (M.setIfInBounds (first + root) M[(first + ch)]!).toList)] [] w) 23 (listed' := [true, true, true, true, true, true, true, true, true, true, true, true, true, true, true, true, true, true, true, true, true, true, false, false]) rfl rfl (by kernel_rfl) rfl ?_
          refine WL_storeR (v := .int .i32 _) (o := (first + root)) (n := n) (xs := nums .i32 M.toList) (xs' := nums .i32 (M.setIfInBounds (first + root) M[(first + ch)]!).toList) Try.underlying21 rfl rfl rfl rfl (by kernel_rfl) (by omega) H .zero (by rw [nums_length]; omega) (nums_setA _ _ _ (nth_at (by omega))) ?_
          clear H; intro w H
          refine WL_nil ?_
          refine nx_mk ?_
          refine WG_take (i := 22) (listed' := [true, true, true, true, true, true, true, true, true, true, true, true, true, true, true, true, true, true, true, true, true, true, true, false]) rfl (by kernel_rfl) (fun w H => x_indexAddr (s := 1) Try.underlying23 (by kernel_rfl) rfl rfl (by omega) (by omega) (H.osomen .zero (by rw [len_setA]; omega)) rfl) H rfl ?_
          refine WG_fin (listed' := [true, true, true, true, true, true, true, true, true, true, true, true, true, true, true, true, true, true, true, true, true, true, true, true]) rfl rfl (by kernel_rfl) rfl (by kernel_rfl) ?_
          refine WL_storeR (v := .int .i32 _) (o := (first + ch)) (n := n) (xs := nums .i32 (M.setIfInBounds (first + root) M[(first + ch)]!).toList) (xs' := nums .i32 (Go.Sort.swp M (first + root) (first + ch)).toList) Try.underlying21 rfl rfl rfl rfl (by kernel_rfl) (by omega) H .zero (by rw [nums_length, len_setA]; omega) (nums_setA _ _ _ (nth_at (by omega))) ?_
          clear H; intro w H
          have hM2 : (Go.Sort.swp M (first + root) (first + ch)).toList.length = n := by rw [len_swp]; exact hM
          refine WL_nil ?_
          refine fin_mk ?_
          refine thenE_normal ?_
          refine WC_region ?_
          refine WL_x (x_move (v := .int .i64 _) rfl) ?_
          refine WL_x (x_assign (v := .int .i64 _) rfl) ?_
          refine WL_nil ?_
          refine inBlockE_normal ?_
          refine thenE_normal ?_
          exact ⟨(ch, Go.Sort.swp M (first + root) (first + ch)), ⟨by simp only; omega, hM2, by simp only; rw [← hR2]; exact hS, (congrArg (Value.int .i64) (by first | omega | rfl | (simp only; omega))), rfl, rfl, rfl, H⟩, by simp only; omega⟩

set_option maxHeartbeats 1000000 in
theorem heap_i32 (W : World) (d : Array Int) (A : Option Addr) (c n : Nat) (h : (row A c 21 1 n (nums .i32 d.toList)).ok W) (hM : d.toList.length = n) (hsz : n ≤ 2305843009213693952) (a b : Nat) (hab : a ≤ b) (hb : b ≤ n) :
    Calls Try.prog 18 #[.slice A n c, .int .i64 a, .int .i64 b] W fun e w' => e = .returned (.tuple #[]) ∧ Fr (row A c 21 1 n (nums .i32 d.toList)).fp W w' ∧ (row A c 21 1 n (nums .i32 (Go.Sort.heapSort Go.Sort.ltInt d a b).toList)).ok w' := by
  have hlen0 := (owns_len h.r)
  unfold maxLen at hlen0
  have H : St W (row A c 21 1 n (nums .i32 d.toList)).fp [row A c 21 1 n (nums .i32 d.toList)] [] W := St.one h
  refine calls_enter (N := 56) Try.func18 rfl Try.ntmps18 rfl ?_
  refine WC_seq ?_
  refine WC_region ?_
  refine WL_x (x_move (v := .int .i64 _) rfl) ?_
  refine WL_x (x_assign (v := .int .i64 _) rfl) ?_
  refine WL_nil ?_
  refine thenE_normal ?_
  refine WC_seq ?_
  refine WC_region ?_
  refine WL_x (x_assign (v := (.int .i64 0)) rfl) ?_
  refine WL_nil ?_
  refine thenE_normal ?_
  refine WC_seq ?_
  refine WC_region ?_
  refine WL_x (x_move (v := .int .i64 _) rfl) ?_
  refine WL_x (x_move (v := .int .i64 _) rfl) ?_
  refine WL_x (x_binop rfl rfl (r_sub_in (i64_in (by omega) (by omega)))) ?_
  refine WL_x (x_assign (v := .int .i64 _) rfl) ?_
  refine WL_nil ?_
  refine thenE_normal ?_
  refine WC_seq ?_
  refine WC_seq ?_
  refine WC_region ?_
  refine WL_x (x_move (v := .int .i64 _) rfl) ?_
  refine WL_x (x_binop rfl rfl (r_sub_in (i64_in (by omega) (by omega)))) ?_
  refine WL_x (x_binop rfl rfl (r_quo (by omega))) ?_
  refine WL_x (x_assign (v := .int .i64 _) rfl) ?_
  refine WL_nil ?_
  refine thenE_normal ?_
  refine WC_block ?_
  refine WC_while (fun (s : Nat × Array Int) f w' => s.1 ≤ n + 1 ∧ s.2.toList.length = n ∧ Go.Sort.heapBuild Go.Sort.ltInt (b - a) a s.1 s.2 = Go.Sort.heapBuild Go.Sort.ltInt (b - a) a ((b - a - 1) / 2 + 1) d ∧ f 9 = .int .i64 ((s.1 : Int) - 1) ∧ f 8 = .int .i64 (b - a : Nat) ∧ f 6 = .int .i64 a ∧ f 7 = .int .i64 (0 : Nat) ∧ f 0 = .slice A n c ∧ St W (row A c 21 1 n (nums .i32 d.toList)).fp [row A c 21 1 n (nums .i32 s.2.toList)] [] w') (fun s => s.1) (s0 := ((b - a - 1) / 2 + 1, d)) ?_ ?_
  · have hq : IntKind.i64.wrap (((b : Int) - a - 1).tdiv 2) = (((b - a - 1) / 2 + 1 : Nat) : Int) - 1 := by
      by_cases hba : b = a
      · subst hba
        rw [show ((b : Int) - b - 1).tdiv 2 = 0 by rw [Int.sub_self]; decide, i64_in (by omega) (by omega)]; omega
      · rw [Int.tdiv_eq_ediv_of_nonneg (by omega), i64_in (by omega) (by omega)]; omega
    exact ⟨by simp only; omega, hM, rfl, congrArg (Value.int .i64) hq, (congrArg (Value.int .i64) (by first | omega | rfl | (simp only; omega))), rfl, rfl, rfl, H⟩
  · clear H hM
    rintro ⟨kk, M⟩ f w ⟨hk, hM, hS, h9, h8, h6, h7, h0, H⟩
    simp only at hk hM hS h9 h8 h6 h7 h0 H
    rw [← upd_self h9, ← upd_self h8, ← upd_self h6, ← upd_self h7, ← upd_self h0]
    refine WC_seq ?_
    refine WC_seq ?_
    refine WC_region ?_
    refine WL_x (x_move (v := .int .i64 _) rfl) ?_
    refine WL_x (x_binop rfl rfl (r_geq _ _ _ _)) ?_
    refine WL_nil ?_
    refine thenE_normal ?_
    refine WC_ifd rfl (fun h19 => ?_) (fun h19 => ?_)
    · obtain ⟨k0, rfl⟩ : ∃ k0, kk = k0 + 1 := ⟨kk - 1, by omega⟩
      have ek : ((k0 + 1 : Nat) : Int) - 1 = (k0 : Nat) := by omega
      refine WC_skip ?_
      refine thenE_normal ?_
      refine WC_seq ?_
      refine WC_block ?_
      refine WC_region ?_
      refine WL_x (x_move (v := .slice _ _ _) rfl) ?_
      refine WL_x (x_move (v := .int .i64 _) rfl) ?_
      refine WL_x (x_move (v := .int .i64 _) rfl) ?_
      refine WL_x (x_move (v := .int .i64 _) rfl) ?_
      refine WL_call (vs := [.slice _ _ _, .int .i64 _, .int .i64 _, .int .i64 _]) Try.func28 rfl rfl rfl (by rw [ek]; exact sift_i32 _ M A c n (H.ok _ List.mem_cons_self) hM hsz k0 (b - a) a (by omega) (by omega)) ?_
      rintro _ w ⟨rfl, hf, hok⟩
      refine ⟨_, rfl, ?_⟩
      replace H := H.turn .zero hf (fun _ h => .inl h) hok (fun _ h => .inl h)
      have hM2 : (Go.Sort.siftDown Go.Sort.ltInt (b - a) a k0 M).toList.length = n := by rw [sift_len _ _ _ _ _ (Nat.le_refl _)]; exact hM
      refine WL_nil ?_
      refine inBlockE_normal ?_
      refine thenE_normal ?_
      refine WC_region ?_
      refine WL_x (x_move (v := .int .i64 _) rfl) ?_
      refine WL_x (x_binop rfl rfl (r_sub_in (i64_in (by omega) (by omega)))) ?_
      refine WL_x (x_assign (v := .int .i64 _) rfl) ?_
      refine WL_nil ?_
      refine thenE_normal ?_
      exact ⟨(k0, Go.Sort.siftDown Go.Sort.ltInt (b - a) a k0 M), ⟨by simp only; omega, hM2, by simp only; exact hS, (congrArg (Value.int .i64) (by first | omega | rfl | (simp only; omega))), rfl, rfl, rfl, rfl, H⟩, by simp only; omega⟩
    · obtain rfl : kk = 0 := by omega
      have hB : M = Go.Sort.heapBuild Go.Sort.ltInt (b - a) a ((b - a - 1) / 2 + 1) d := hS
      refine WC_exit ?_
      refine thenE_exit ?_
      refine thenE_exit ?_
      refine inBlockE_exit ?_
      refine thenE_normal ?_
      refine WC_seq ?_
      refine WC_region ?_
      refine WL_x (x_move (v := .int .i64 _) rfl) ?_
      refine WL_x (x_binop rfl rfl (r_sub_in (i64_in (by omega) (by omega)))) ?_
      refine WL_x (x_assign (v := .int .i64 _) rfl) ?_
      refine WL_nil ?_
      refine thenE_normal ?_
      refine WC_block ?_
      refine WC_while (fun (s : Nat × Array Int) f w' => s.1 ≤ b - a ∧ s.2.toList.length = n ∧ Go.Sort.heapPop Go.Sort.ltInt a s.1 s.2 = Go.Sort.heapPop Go.Sort.ltInt a (b - a) (Go.Sort.heapBuild Go.Sort.ltInt (b - a) a ((b - a - 1) / 2 + 1) d) ∧ f 10 = .int .i64 ((s.1 : Int) - 1) ∧ f 6 = .int .i64 a ∧ f 7 = .int .i64 (0 : Nat) ∧ f 0 = .slice A n c ∧ St W (row A c 21 1 n (nums .i32 d.toList)).fp [row A c 21 1 n (nums .i32 s.2.toList)] [] w') (fun s => s.1) (s0 := (b - a, M)) ?_ ?_
      · exact ⟨Nat.le_refl _, hM, by simp only; rw [hB], rfl, rfl, rfl, rfl, H⟩
      · clear H hM hB hS
        rintro ⟨kk, M⟩ f w ⟨hk, hM, hS, h10, h6, h7, h0, H⟩
        simp only at hk hM hS h10 h6 h7 h0 H
        rw [← upd_self h10, ← upd_self h6, ← upd_self h7, ← upd_self h0]
        refine WC_seq ?_
        refine WC_seq ?_
        refine WC_region ?_
        refine WL_x (x_move (v := .int .i64 _) rfl) ?_
        refine WL_x (x_binop rfl rfl (r_geq _ _ _ _)) ?_
        refine WL_nil ?_
        refine thenE_normal ?_
        refine WC_ifd rfl (fun h30 => ?_) (fun h30 => ?_)
        · obtain ⟨k0, rfl⟩ : ∃ k0, kk = k0 + 1 := ⟨kk - 1, by omega⟩
          have ek : ((k0 + 1 : Nat) : Int) - 1 = (k0 : Nat) := by omega
          refine WC_skip ?_
          refine thenE_normal ?_
          refine WC_seq ?_
          refine WC_block ?_
          refine WC_seq ?_
          refine WC_drawT (m := 20) (listed := [false, false, false, false, false, false, false, false, false, false, false, false, false, false, false, false, false, false, false, false]) (by kernel_rfl) rfl rfl H ?_
          intro w H
          refine WG_take (i := 2) (listed' := [false, false, true, false, false, false, false, false, false, false, false, false, false, false, false, false, false, false, false, false]) rfl (by kernel_rfl) (fun w _ => x_move (v := .slice _ _ _) rfl) trivial rfl ?_
          refine WG_take (i := 3) (listed' := [false, false, true, true, false, false, false, false, false, false, false, false, false, false, false, false, false, false, false, false]) rfl (by kernel_rfl) (fun w _ => x_move (v := .int .i64 _) rfl) trivial rfl ?_
          refine WG_take (i := 4) (listed' := [false, false, true, true, true, false, false, false, false, false, false, false, false, false, false, false, false, false, false, false]) rfl (by kernel_rfl) (fun w _ => x_move (v := .int .i64 _) rfl) trivial rfl ?_
          refine WG_take (i := 5) (listed' := [false, false, true, true, true, true, false, false, false, false, false, false, false, false, false, false, false, false, false, false]) rfl (by kernel_rfl) (fun w _ => x_binop rfl rfl (r_add_in (i64_in (by omega) (by omega)))) trivial rfl ?_
          refine WG_true (S := fun w => St W (row A c 21 1 n (nums .i32 d.toList)).fp [row A c 21 1 n (nums .i32 M.toList)] [] w) (n := 17) rfl ?_
          refine WG_take (i := 0) (listed' := [true, false, true, true, true, true, false, false, false, false, false, false, false, false, false, false, false, false, false, false]) rfl (by kernel_rfl) (fun w H => x_move (v := .slice _ _ _) rfl) H rfl ?_
          refine WG_take (i := 1) (listed' := [true, true, true, true, true, true, false, false, false, false, false, false, false, false, false, false, false, false, false, false]) rfl (by kernel_rfl) (fun w H => x_move (v := .int .i64 _) rfl) H rfl ?_
          refine WG_take (i := 6) (listed' := [true, true, true, true, true, true, true, false, false, false, false, false, false, false, false, false, false, false, false, false]) rfl (by kernel_rfl) (fun w H => x_move (v := .slice _ _ _) rfl) H rfl ?_
          refine WG_take (i := 7) (listed' := [true, true, true, true, true, true, true, true, false, false, false, false, false, false, false, false, false, false, false, false]) rfl (by kernel_rfl) (fun w H => x_move (v := .int .i64 _) rfl) H rfl ?_
          refine WG_take (i := 8) (listed' := [true, true, true, true, true, true, true, true, true, false, false, false, false, false, false, false, false, false, false, false]) rfl (by kernel_rfl) (fun w H => x_move (v := .int .i64 _) rfl) H rfl ?_
          refine WG_take (i := 9) (listed' := [true, true, true, true, true, true, true, true, true, true, false, false, false, false, false, false, false, false, false, false]) rfl (by kernel_rfl) (fun w H => x_binop rfl rfl (r_add_in (i64_in (by omega) (by omega)))) H rfl ?_
          refine WG_take (i := 10) (listed' := [true, true, true, true, true, true, true, true, true, true, true, false, false, false, false, false, false, false, false, false]) rfl (by kernel_rfl) (fun w H => x_indexAddr (s := 1) Try.underlying23 (by kernel_rfl) rfl rfl (by omega) (by omega) (by first | rfl | assumption | exact H.rsomen .zero (by omega) | exact H.rsomen (.succ .zero) (by omega) | exact H.rsomen (.succ (.succ .zero)) (by omega) | exact H.osomen .zero (by omega) | exact H.osomen (.succ .zero) (by omega) | exact H.osomen (.succ (.succ .zero)) (by omega)) rfl) H rfl ?_
          first | refine WG_take (i := 11) (listed' := [true, true, true, true, true, true, true, true, true, true, true, true, false, false, false, false, false, false, false, false]) rfl (by kernel_rfl) (fun w H => x_load (v := .int .i32 _) Try.underlying21 rfl rfl (H.cellAt .zero rfl)) H rfl ?_ | refine WG_take (i := 11) (listed' := [true, true, true, true, true, true, true, true, true, true, true, true, false, false, false, false, false, false, false, false]) rfl (by kernel_rfl) (fun w H => x_load (v := .int .i32 _) Try.underlying21 rfl rfl (H.cellAt (.succ .zero) rfl)) H rfl ?_ | refine WG_take (i := 11) (listed' := [true, true, true, true, true, true, true, true, true, true, true, true, false, false, false, false, false, false, false, false]) rfl (by kernel_rfl) (fun w H => x_load (v := .int .i32 _) Try.underlying21 rfl rfl (H.cellAt (.succ (.succ .zero)) rfl)) H rfl ?_ | refine WG_take (i := 11) (listed' := [true, true, true, true, true, true, true, true, true, true, true, true, false, false, false, false, false, false, false, false]) rfl (by kernel_rfl) (fun w H => x_load (v := .int .i32 _) Try.underlying21 rfl rfl (H.cellAt (.succ (.succ (.succ .zero))) rfl)) H rfl ?_ | refine WG_take (i := 11) (listed' := [true, true, true, true, true, true, true, true, true, true, true, true, false, false, false, false, false, false, false, false]) rfl (by kernel_rfl) (fun w H => x_load (v := .int .i32 _) Try.underlying21 rfl rfl (H.cellAt (.succ (.succ (.succ (.succ .zero)))) rfl)) H rfl ?_ | refine WG_take (i := 11) (listed' := [true, true, true, true, true, true, true, true, true, true, true, true, false, false, false, false, false, false, false, false]) rfl (by kernel_rfl) (fun w H => x_load Try.underlying21 rfl rfl (H.rnum .zero (by omega) (by omega))) H rfl ?_ | refine WG_take (i := 11) (listed' := [true, true, true, true, true, true, true, true, true, true, true, true, false, false, false, false, false, false, false, false]) rfl (by kernel_rfl) (fun w H => x_load Try.underlying21 rfl rfl (H.rnum (.succ .zero) (by omega) (by omega))) H rfl ?_ | refine WG_take (i := 11) (listed' := [true, true, true, true, true, true, true, true, true, true, true, true, false, false, false, false, false, false, false, false]) rfl (by kernel_rfl) (fun w H => x_load Try.underlying21 rfl rfl (H.rnum (.succ (.succ .zero)) (by omega) (by omega))) H rfl ?_ | refine WG_take (i := 11) (listed' := [true, true, true, true, true, true, true, true, true, true, true, true, false, false, false, false, false, false, false, false]) rfl (by kernel_rfl) (fun w H => x_load Try.underlying21 rfl rfl (H.onum .zero (by omega) (by omega))) H rfl ?_ | refine WG_take (i := 11) (listed' := [true, true, true, true, true, true, true, true, true, true, true, true, false, false, false, false, false, false, false, false]) rfl (by kernel_rfl) (fun w H => x_load Try.underlying21 rfl rfl (H.onum (.succ .zero) (by omega) (by omega))) H rfl ?_ | refine WG_take (i := 11) (listed' := [true, true, true, true, true, true, true, true, true, true, true, true, false, false, false, false, false, false, false, false]) rfl (by kernel_rfl) (fun w H => x_load Try.underlying21 rfl rfl (H.onum (.succ (.succ .zero)) (by omega) (by omega))) H rfl ?_
          refine WG_take (i := 12) (listed' := [true, true, true, true, true, true, true, true, true, true, true, true, true, false, false, false, false, false, false, false]) rfl (by kernel_rfl) (fun w H => x_move (v := .slice _ _ _) rfl) H rfl ?_
          refine WG_take (i := 13) (listed' := [true, true, true, true, true, true, true, true, true, true, true, true, true, true, false, false, false, false, false, false]) rfl (by kernel_rfl) (fun w H => x_move (v := .int .i64 _) rfl) H rfl ?_
          refine WG_take (i := 14) (listed' := [true, true, true, true, true, true, true, true, true, true, true, true, true, true, true, false, false, false, false, false]) rfl (by kernel_rfl) (fun w H => x_indexAddr (s := 1) Try.underlying23 (by kernel_rfl) rfl rfl (by omega) (by omega) (by first | rfl | assumption | exact H.rsomen .zero (by omega) | exact H.rsomen (.succ .zero) (by omega) | exact H.rsomen (.succ (.succ .zero)) (by omega) | exact H.osomen .zero (by omega) | exact H.osomen (.succ .zero) (by omega) | exact H.osomen (.succ (.succ .zero)) (by omega)) rfl) H rfl ?_
          first | refine WG_take (i := 15) (listed' := [true, true, true, true, true, true, true, true, true, true, true, true, true, true, true, true, false, false, false, false]) rfl (by kernel_rfl) (fun w H => x_load (v := .int .i32 _) Try.underlying21 rfl rfl (H.cellAt .zero rfl)) H rfl ?_ | refine WG_take (i := 15) (listed' := [true, true, true, true, true, true, true, true, true, true, true, true, true, true, true, true, false, false, false, false]) rfl (by kernel_rfl) (fun w H => x_load (v := .int .i32 _) Try.underlying21 rfl rfl (H.cellAt (.succ .zero) rfl)) H rfl ?_ | refine WG_take (i := 15) (listed' := [true, true, true, true, true, true, true, true, true, true, true, true, true, true, true, true, false, false, false, false]) rfl (by kernel_rfl) (fun w H => x_load (v := .int .i32 _) Try.underlying21 rfl rfl (H.cellAt (.succ (.succ .zero)) rfl)) H rfl ?_ | refine WG_take (i := 15) (listed' := [true, true, true, true, true, true, true, true, true, true, true, true, true, true, true, true, false, false, false, false]) rfl (by kernel_rfl) (fun w H => x_load (v := .int .i32 _) Try.underlying21 rfl rfl (H.cellAt (.succ (.succ (.succ .zero))) rfl)) H rfl ?_ | refine WG_take (i := 15) (listed' := [true, true, true, true, true, true, true, true, true, true, true, true, true, true, true, true, false, false, false, false]) rfl (by kernel_rfl) (fun w H => x_load (v := .int .i32 _) Try.underlying21 rfl rfl (H.cellAt (.succ (.succ (.succ (.succ .zero)))) rfl)) H rfl ?_ | refine WG_take (i := 15) (listed' := [true, true, true, true, true, true, true, true, true, true, true, true, true, true, true, true, false, false, false, false]) rfl (by kernel_rfl) (fun w H => x_load Try.underlying21 rfl rfl (H.rnum .zero (by omega) (by omega))) H rfl ?_ | refine WG_take (i := 15) (listed' := [true, true, true, true, true, true, true, true, true, true, true, true, true, true, true, true, false, false, false, false]) rfl (by kernel_rfl) (fun w H => x_load Try.underlying21 rfl rfl (H.rnum (.succ .zero) (by omega) (by omega))) H rfl ?_ | refine WG_take (i := 15) (listed' := [true, true, true, true, true, true, true, true, true, true, true, true, true, true, true, true, false, false, false, false]) rfl (by kernel_rfl) (fun w H => x_load Try.underlying21 rfl rfl (H.rnum (.succ (.succ .zero)) (by omega) (by omega))) H rfl ?_ | refine WG_take (i := 15) (listed' := [true, true, true, true, true, true, true, true, true, true, true, true, true, true, true, true, false, false, false, false]) rfl (by kernel_rfl) (fun w H => x_load Try.underlying21 rfl rfl (H.onum .zero (by omega) (by omega))) H rfl ?_ | refine WG_take (i := 15) (listed' := [true, true, true, true, true, true, true, true, true, true, true, true, true, true, true, true, false, false, false, false]) rfl (by kernel_rfl) (fun w H => x_load Try.underlying21 rfl rfl (H.onum (.succ .zero) (by omega) (by omega))) H rfl ?_ | refine WG_take (i := 15) (listed' := [true, true, true, true, true, true, true, true, true, true, true, true, true, true, true, true, false, false, false, false]) rfl (by kernel_rfl) (fun w H => x_load Try.underlying21 rfl rfl (H.onum (.succ (.succ .zero)) (by omega) (by omega))) H rfl ?_
          refine WG_take (i := 16) (listed' := [true, true, true, true, true, true, true, true, true, true, true, true, true, true, true, true, true, false, false, false]) rfl (by kernel_rfl) (fun w H => x_indexAddr (s := 1) Try.underlying23 (by kernel_rfl) rfl rfl (by omega) (by omega) (by first | rfl | assumption | exact H.rsomen .zero (by omega) | exact H.rsomen (.succ .zero) (by omega) | exact H.rsomen (.succ (.succ .zero)) (by omega) | exact H.osomen .zero (by omega) | exact H.osomen (.succ .zero) (by omega) | exact H.osomen (.succ (.succ .zero)) (by omega)) rfl) H rfl ?_
          refine WG_next (fun w => St W (row A c 21 1 n (nums .i32 d.toList)).fp [row A c 21 1 n (nums .i32 (M.setIfInBounds a M[(a + k0)]!).toList)] [] w) 19 (listed' := [true, true, true, true, true, true, true, true, true, true, true, true, true, true, true, true, true, true, false, false]) rfl rfl (by kernel_rfl) rfl ?_
          refine WL_storeR (v := .int .i32 _) (o := a) (n := n) (xs := nums .i32 M.toList) (xs' := nums .i32 (M.setIfInBounds a M[(a + k0)]!).toList) Try.underlying21 rfl rfl rfl rfl (by kernel_rfl) (by omega) H .zero (by rw [nums_length]; omega) (nums_setA _ _ _ (nth_at (by omega))) ?_
          clear H; intro w H
          refine WL_nil ?_
          refine nx_mk ?_
          refine WG_take (i := 18) (listed' := [true, true, true, true, true, true, true, true, true, true, true, true, true, true, true, true, true, true, true, false]) rfl (by kernel_rfl) (fun w H => x_indexAddr (s := 1) Try.underlying23 (by kernel_rfl) rfl rfl (by omega) (by omega) (H.osomen .zero (by rw [len_setA]; omega)) rfl) H rfl ?_
          refine WG_fin (listed' := [true, true, true, true, true, true, true, true, true, true, true, true, true, true, true, true, true, true, true, true]) rfl rfl (by kernel_rfl) rfl (by kernel_rfl) ?_
          refine WL_storeR (v := .int .i32 _) (o := (a + k0)) (n := n) (xs := nums .i32 (M.setIfInBounds a M[(a + k0)]!).toList) (xs' := nums .i32 (Go.Sort.swp M a (a + k0)).toList) Try.underlying21 rfl rfl rfl rfl (by kernel_rfl) (by omega) H .zero (by rw [nums_length, len_setA]; omega) (nums_setA _ _ _ (nth_at (by omega))) ?_
          clear H; intro w H
          have hM2 : (Go.Sort.swp M a (a + k0)).toList.length = n := by rw [len_swp]; exact hM
          refine WL_nil ?_
          refine fin_mk ?_
          refine thenE_normal ?_
          refine WC_region ?_
          refine WL_x (x_move (v := .slice _ _ _) rfl) ?_
          refine WL_x (x_move (v := .int .i64 _) rfl) ?_
          refine WL_x (x_move (v := .int .i64 _) rfl) ?_
          refine WL_x (x_move (v := .int .i64 _) rfl) ?_
          refine WL_call (vs := [.slice _ _ _, .int .i64 _, .int .i64 _, .int .i64 _]) Try.func28 rfl rfl rfl (by rw [ek]; exact sift_i32 _ (Go.Sort.swp M a (a + k0)) A c n (H.ok _ List.mem_cons_self) hM2 hsz 0 k0 a (by omega) (by omega)) ?_
          rintro _ w ⟨rfl, hf, hok⟩
          refine ⟨_, rfl, ?_⟩
          replace H := H.turn .zero hf (fun _ h => .inl h) hok (fun _ h => .inl h)
          have hM3 : (Go.Sort.siftDown Go.Sort.ltInt k0 a 0 (Go.Sort.swp M a (a + k0))).toList.length = n := by rw [sift_len _ _ _ _ _ (Nat.le_refl _)]; exact hM2
          refine WL_nil ?_
          refine inBlockE_normal ?_
          refine thenE_normal ?_
          refine WC_region ?_
          refine WL_x (x_move (v := .int .i64 _) rfl) ?_
          refine WL_x (x_binop rfl rfl (r_sub_in (i64_in (by omega) (by omega)))) ?_
          refine WL_x (x_assign (v := .int .i64 _) rfl) ?_
          refine WL_nil ?_
          refine thenE_normal ?_
          exact ⟨(k0, Go.Sort.siftDown Go.Sort.ltInt k0 a 0 (Go.Sort.swp M a (a + k0))), ⟨by simp only; omega, hM3, by simp only; exact hS, (congrArg (Value.int .i64) (by first | omega | rfl | (simp only; omega))), rfl, rfl, rfl, H⟩, by simp only; omega⟩
        · obtain rfl : kk = 0 := by omega
          have hR : Go.Sort.heapSort Go.Sort.ltInt d a b = M := hS.symm
          refine WC_exit ?_
          refine thenE_exit ?_
          refine thenE_exit ?_
          refine inBlockE_exit ?_
          refine endn0 Try.results18 ?_
          exact ⟨rfl, H.fr, by rw [hR]; exact H.ok _ List.mem_cons_self⟩

set_option maxHeartbeats 1000000 in
theorem rev_i32 (W : World) (d : Array Int) (A : Option Addr) (c n : Nat) (h : (row A c 21 1 n (nums .i32 d.toList)).ok W) (hM : d.toList.length = n) (hsz : n ≤ 2305843009213693952) (a b : Nat) (hab : a < b) (hb : b ≤ n) :
    Calls Try.prog 21 #[.slice A n c, .int .i64 a, .int .i64 b] W fun e w' => e = .returned (.tuple #[]) ∧ Fr (row A c 21 1 n (nums .i32 d.toList)).fp W w' ∧ (row A c 21 1 n (nums .i32 (Go.Sort.reverseRange d a b).toList)).ok w' := by
  have hlen0 := (owns_len h.r)
  unfold maxLen at hlen0
  have H : St W (row A c 21 1 n (nums .i32 d.toList)).fp [row A c 21 1 n (nums .i32 d.toList)] [] W := St.one h
  refine calls_enter (N := 32) Try.func21 rfl Try.ntmps21 rfl ?_
  refine WC_seq ?_
  refine WC_region ?_
  refine WL_x (x_move (v := .int .i64 _) rfl) ?_
  refine WL_x (x_assign (v := .int .i64 _) rfl) ?_
  refine WL_nil ?_
  refine thenE_normal ?_
  refine WC_seq ?_
  refine WC_region ?_
  refine WL_x (x_move (v := .int .i64 _) rfl) ?_
  refine WL_x (x_binop rfl rfl (r_sub_in (i64_in (by omega) (by omega)))) ?_
  refine WL_x (x_assign (v := .int .i64 _) rfl) ?_
  refine WL_nil ?_
  refine thenE_normal ?_
  refine WC_block ?_
  refine WC_while (fun (s : Nat × Nat × Array Int) f w' => s.1 ≤ n ∧ s.2.1 < n ∧ s.2.2.toList.length = n ∧ Go.Sort.reverseLoop s.1 s.2.1 s.2.2 = Go.Sort.reverseLoop a (b - 1) d ∧ f 6 = .int .i64 s.1 ∧ f 7 = .int .i64 s.2.1 ∧ f 0 = .slice A n c ∧ St W (row A c 21 1 n (nums .i32 d.toList)).fp [row A c 21 1 n (nums .i32 s.2.2.toList)] [] w') (fun s => s.2.1) (s0 := (a, b - 1, d)) ?_ ?_
  · exact ⟨by simp only; omega, by simp only; omega, hM, rfl, rfl, (congrArg (Value.int .i64) (by first | omega | rfl | (simp only; omega))), rfl, H⟩
  · clear H hM
    rintro ⟨i, j, M⟩ f w ⟨hi, hj, hM, hS, h6, h7, h0, H⟩
    simp only at hi hj hM hS h6 h7 h0 H
    rw [← upd_self h6, ← upd_self h7, ← upd_self h0]
    refine WC_seq ?_
    refine WC_seq ?_
    refine WC_region ?_
    refine WL_x (x_move (v := .int .i64 _) rfl) ?_
    refine WL_x (x_move (v := .int .i64 _) rfl) ?_
    refine WL_x (x_binop rfl rfl (r_lss _ _ _ _)) ?_
    refine WL_nil ?_
    refine thenE_normal ?_
    refine WC_ifd rfl (fun h13 => ?_) (fun h13 => ?_)
    · refine WC_skip ?_
      refine thenE_normal ?_
      refine WC_block ?_
      refine WC_seq ?_
      refine WC_drawT (m := 16) (listed := [false, false, false, false, false, false, false, false, false, false, false, false, false, false, false, false]) (by kernel_rfl) rfl rfl H ?_
      intro w H
      refine WG_take (i := 2) (listed' := [false, false, true, false, false, false, false, false, false, false, false, false, false, false, false, false]) rfl (by kernel_rfl) (fun w _ => x_move (v := .slice _ _ _) rfl) trivial rfl ?_
      refine WG_take (i := 3) (listed' := [false, false, true, true, false, false, false, false, false, false, false, false, false, false, false, false]) rfl (by kernel_rfl) (fun w _ => x_move (v := .int .i64 _) rfl) trivial rfl ?_
      refine WG_true (S := fun w => St W (row A c 21 1 n (nums .i32 d.toList)).fp [row A c 21 1 n (nums .i32 M.toList)] [] w) (n := 13) rfl ?_
      refine WG_take (i := 0) (listed' := [true, false, true, true, false, false, false, false, false, false, false, false, false, false, false, false]) rfl (by kernel_rfl) (fun w H => x_move (v := .slice _ _ _) rfl) H rfl ?_
      refine WG_take (i := 1) (listed' := [true, true, true, true, false, false, false, false, false, false, false, false, false, false, false, false]) rfl (by kernel_rfl) (fun w H => x_move (v := .int .i64 _) rfl) H rfl ?_
      refine WG_take (i := 4) (listed' := [true, true, true, true, true, false, false, false, false, false, false, false, false, false, false, false]) rfl (by kernel_rfl) (fun w H => x_move (v := .slice _ _ _) rfl) H rfl ?_
      refine WG_take (i := 5) (listed' := [true, true, true, true, true, true, false, false, false, false, false, false, false, false, false, false]) rfl (by kernel_rfl) (fun w H => x_move (v := .int .i64 _) rfl) H rfl ?_
      refine WG_take (i := 6) (listed' := [true, true, true, true, true, true, true, false, false, false, false, false, false, false, false, false]) rfl (by kernel_rfl) (fun w H => x_indexAddr (s := 1) Try.underlying23 (by kernel_rfl) rfl rfl (by omega) (by omega) (by first | rfl | assumption | exact H.rsomen .zero (by omega) | exact H.rsomen (.succ .zero) (by omega) | exact H.rsomen (.succ (.succ .zero)) (by omega) | exact H.osomen .zero (by omega) | exact H.osomen (.succ .zero) (by omega) | exact H.osomen (.succ (.succ .zero)) (by omega)) rfl) H rfl ?_
      first | refine WG_take (i := 7) (listed' := [true, true, true, true, true, true, true, true, false, false, false, false, false, false, false, false]) rfl (by kernel_rfl) (fun w H => x_load (v := .int .i32 _) Try.underlying21 rfl rfl (H.cellAt .zero rfl)) H rfl ?_ | refine WG_take (i := 7) (listed' := [true, true, true, true, true, true, true, true, false, false, false, false, false, false, false, false]) rfl (by kernel_rfl) (fun w H => x_load (v := .int .i32 _) Try.underlying21 rfl rfl (H.cellAt (.succ .zero) rfl)) H rfl ?_ | refine WG_take (i := 7) (listed' := [true, true, true, true, true, true, true, true, false, false, false, false, false, false, false, false]) rfl (by kernel_rfl) (fun w H => x_load (v := .int .i32 _) Try.underlying21 rfl rfl (H.cellAt (.succ (.succ .zero)) rfl)) H rfl ?_ | refine WG_take (i := 7) (listed' := [true, true, true, true, true, true, true, true, false, false, false, false, false, false, false, false]) rfl (by kernel_rfl) (fun w H => x_load (v := .int .i32 _) Try.underlying21 rfl rfl (H.cellAt (.succ (.succ (.succ .zero))) rfl)) H rfl ?_ | refine WG_take (i := 7) (listed' := [true, true, true, true, true, true, true, true, false, false, false, false, false, false, false, false]) rfl (by kernel_rfl) (fun w H => x_load (v := .int .i32 _) Try.underlying21 rfl rfl (H.cellAt (.succ (.succ (.succ (.succ .zero)))) rfl)) H rfl ?_ | refine WG_take (i := 7) (listed' := [true, true, true, true, true, true, true, true, false, false, false, false, false, false, false, false]) rfl (by kernel_rfl) (fun w H => x_load Try.underlying21 rfl rfl (H.rnum .zero (by omega) (by omega))) H rfl ?_ | refine WG_take (i := 7) (listed' := [true, true, true, true, true, true, true, true, false, false, false, false, false, false, false, false]) rfl (by kernel_rfl) (fun w H => x_load Try.underlying21 rfl rfl (H.rnum (.succ .zero) (by omega) (by omega))) H rfl ?_ | refine WG_take (i := 7) (listed' := [true, true, true, true, true, true, true, true, false, false, false, false, false, false, false, false]) rfl (by kernel_rfl) (fun w H => x_load Try.underlying21 rfl rfl (H.rnum (.succ (.succ .zero)) (by omega) (by omega))) H rfl ?_ | refine WG_take (i := 7) (listed' := [true, true, true, true, true, true, true, true, false, false, false, false, false, false, false, false]) rfl (by kernel_rfl) (fun w H => x_load Try.underlying21 rfl rfl (H.onum .zero (by omega) (by omega))) H rfl ?_ | refine WG_take (i := 7) (listed' := [true, true, true, true, true, true, true, true, false, false, false, false, false, false, false, false]) rfl (by kernel_rfl) (fun w H => x_load Try.underlying21 rfl rfl (H.onum (.succ .zero) (by omega) (by omega))) H rfl ?_ | refine WG_take (i := 7) (listed' := [true, true, true, true, true, true, true, true, false, false, false, false, false, false, false, false]) rfl (by kernel_rfl) (fun w H => x_load Try.underlying21 rfl rfl (H.onum (.succ (.succ .zero)) (by omega) (by omega))) H rfl ?_
      refine WG_take (i := 8) (listed' := [true, true, true, true, true, true, true, true, true, false, false, false, false, false, false, false]) rfl (by kernel_rfl) (fun w H => x_move (v := .slice _ _ _) rfl) H rfl ?_
      refine WG_take (i := 9) (listed' := [true, true, true, true, true, true, true, true, true, true, false, false, false, false, false, false]) rfl (by kernel_rfl) (fun w H => x_move (v := .int .i64 _) rfl) H rfl ?_
      refine WG_take (i := 10) (listed' := [true, true, true, true, true, true, true, true, true, true, true, false, false, false, false, false]) rfl (by kernel_rfl) (fun w H => x_indexAddr (s := 1) Try.underlying23 (by kernel_rfl) rfl rfl (by omega) (by omega) (by first | rfl | assumption | exact H.rsomen .zero (by omega) | exact H.rsomen (.succ .zero) (by omega) | exact H.rsomen (.succ (.succ .zero)) (by omega) | exact H.osomen .zero (by omega) | exact H.osomen (.succ .zero) (by omega) | exact H.osomen (.succ (.succ .zero)) (by omega)) rfl) H rfl ?_
      first | refine WG_take (i := 11) (listed' := [true, true, true, true, true, true, true, true, true, true, true, true, false, false, false, false]) rfl (by kernel_rfl) (fun w H => x_load (v := .int .i32 _) Try.underlying21 rfl rfl (H.cellAt .zero rfl)) H rfl ?_ | refine WG_take (i := 11) (listed' := [true, true, true, true, true, true, true, true, true, true, true, true, false, false, false, false]) rfl (by kernel_rfl) (fun w H => x_load (v := .int .i32 _) Try.underlying21 rfl rfl (H.cellAt (.succ .zero) rfl)) H rfl ?_ | refine WG_take (i := 11) (listed' := [true, true, true, true, true, true, true, true, true, true, true, true, false, false, false, false]) rfl (by kernel_rfl) (fun w H => x_load (v := .int .i32 _) Try.underlying21 rfl rfl (H.cellAt (.succ (.succ .zero)) rfl)) H rfl ?_ | refine WG_take (i := 11) (listed' := [true, true, true, true, true, true, true, true, true, true, true, true, false, false, false, false]) rfl (by kernel_rfl) (fun w H => x_load (v := .int .i32 _) Try.underlying21 rfl rfl (H.cellAt (.succ (.succ (.succ .zero))) rfl)) H rfl ?_ | refine WG_take (i := 11) (listed' := [true, true, true, true, true, true, true, true, true, true, true, true, false, false, false, false]) rfl (by kernel_rfl) (fun w H => x_load (v := .int .i32 _) Try.underlying21 rfl rfl (H.cellAt (.succ (.succ (.succ (.succ .zero)))) rfl)) H rfl ?_ | refine WG_take (i := 11) (listed' := [true, true, true, true, true, true, true, true, true, true, true, true, false, false, false, false]) rfl (by kernel_rfl) (fun w H => x_load Try.underlying21 rfl rfl (H.rnum .zero (by omega) (by omega))) H rfl ?_ | refine WG_take (i := 11) (listed' := [true, true, true, true, true, true, true, true, true, true, true, true, false, false, false, false]) rfl (by kernel_rfl) (fun w H => x_load Try.underlying21 rfl rfl (H.rnum (.succ .zero) (by omega) (by omega))) H rfl ?_ | refine WG_take (i := 11) (listed' := [true, true, true, true, true, true, true, true, true, true, true, true, false, false, false, false]) rfl (by kernel_rfl) (fun w H => x_load Try.underlying21 rfl rfl (H.rnum (.succ (.succ .zero)) (by omega) (by omega))) H rfl ?_ | refine WG_take (i := 11) (listed' := [true, true, true, true, true, true, true, true, true, true, true, true, false, false, false, false]) rfl (by kernel_rfl) (fun w H => x_load Try.underlying21 rfl rfl (H.onum .zero (by omega) (by omega))) H rfl ?_ | refine WG_take (i := 11) (listed' := [true, true, true, true, true, true, true, true, true, true, true, true, false, false, false, false]) rfl (by kernel_rfl) (fun w H => x_load Try.underlying21 rfl rfl (H.onum (.succ .zero) (by omega) (by omega))) H rfl ?_ | refine WG_take (i := 11) (listed' := [true, true, true, true, true, true, true, true, true, true, true, true, false, false, false, false]) rfl (by kernel_rfl) (fun w H => x_load Try.underlying21 rfl rfl (H.onum (.succ (.succ .zero)) (by omega) (by omega))) H rfl ?_
      refine WG_take (i := 12) (listed' := [true, true, true, true, true, true, true, true, true, true, true, true, true, false, false, false]) rfl (by kernel_rfl) (fun w H => x_indexAddr (s := 1) Try.underlying23 (by kernel_rfl) rfl rfl (by omega) (by omega) (by first | rfl | assumption | exact H.rsomen .zero (by omega) | exact H.rsomen (.succ .zero) (by omega) | exact H.rsomen (.succ (.succ .zero)) (by omega) | exact H.osomen .zero (by omega) | exact H.osomen (.succ .zero) (by omega) | exact H.osomen (.succ (.succ .zero)) (by omega)) rfl) H rfl ?_
      refine WG_next (fun w => St W (row A c 21 1 n (nums .i32 d.toList)).fp [row A c 21 1 n (nums .i32 (M.setIfInBounds i M[j]!).toList)] [] w) 15 (listed' := [true, true, true, true, true, true, true, true, true, true, true, true, true, true, false, false]) rfl rfl (by kernel_rfl) rfl ?_
      refine WL_storeR (v := .int .i32 _) (o := i) (n := n) (xs := nums .i32 M.toList) (xs' := nums .i32 (M.setIfInBounds i M[j]!).toList) Try.underlying21 rfl rfl rfl rfl (by kernel_rfl) (by omega) H .zero (by rw [nums_length]; omega) (nums_setA _ _ _ (nth_at (by omega))) ?_
      clear H; intro w H
      refine WL_nil ?_
      refine nx_mk ?_
      refine WG_take (i := 14) (listed' := [true, true, true, true, true, true, true, true, true, true, true, true, true, true, true, false]) rfl (by kernel_rfl) (fun w H => x_indexAddr (s := 1) Try.underlying23 (by kernel_rfl) rfl rfl (by omega) (by omega) (H.osomen .zero (by rw [len_setA]; omega)) rfl) H rfl ?_
      refine WG_fin (listed' := [true, true, true, true, true, true, true, true, true, true, true, true, true, true, true, true]) rfl rfl (by kernel_rfl) rfl (by kernel_rfl) ?_
      refine WL_storeR (v := .int .i32 _) (o := j) (n := n) (xs := nums .i32 (M.setIfInBounds i M[j]!).toList) (xs' := nums .i32 (Go.Sort.swp M i j).toList) Try.underlying21 rfl rfl rfl rfl (by kernel_rfl) (by omega) H .zero (by rw [nums_length, len_setA]; omega) (nums_setA _ _ _ (nth_at (by omega))) ?_
      clear H; intro w H
      have hM2 : (Go.Sort.swp M i j).toList.length = n := by rw [len_swp]; exact hM
      refine WL_nil ?_
      refine fin_mk ?_
      refine thenE_normal ?_
      refine WC_seq ?_
      refine WC_region ?_
      refine WL_x (x_move (v := .int .i64 _) rfl) ?_
      refine WL_x (x_binop rfl rfl (r_add_in (i64_in (by omega) (by omega)))) ?_
      refine WL_x (x_assign (v := .int .i64 _) rfl) ?_
      refine WL_nil ?_
      refine thenE_normal ?_
      refine WC_region ?_
      refine WL_x (x_move (v := .int .i64 _) rfl) ?_
      refine WL_x (x_binop rfl rfl (r_sub_in (i64_in (by omega) (by omega)))) ?_
      refine WL_x (x_assign (v := .int .i64 _) rfl) ?_
      refine WL_nil ?_
      refine inBlockE_normal ?_
      refine thenE_normal ?_
      exact ⟨(i + 1, j - 1, Go.Sort.swp M i j), ⟨by simp only; omega, by simp only; omega, hM2, by simp only; rw [← rev_go (by omega)]; exact hS, (congrArg (Value.int .i64) (by first | omega | rfl | (simp only; omega))), (congrArg (Value.int .i64) (by first | omega | rfl | (simp only; omega))), rfl, H⟩, by simp only; omega⟩
    · have hR : Go.Sort.reverseRange d a b = M := by rw [Go.Sort.reverseRange, ← hS, rev_end (by omega)]
      refine WC_exit ?_
      refine thenE_exit ?_
      refine thenE_exit ?_
      refine inBlockE_exit ?_
      refine endn0 Try.results21 ?_
      exact ⟨rfl, H.fr, by rw [hR]; exact H.ok _ List.mem_cons_self⟩
end Go.Proofs.Ytjagiknmaoilhaa
