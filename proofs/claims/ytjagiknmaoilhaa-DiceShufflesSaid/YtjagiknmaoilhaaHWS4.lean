import Derived.Test.YtjagiknmaoilhaaHWS3
import Derived.Test.YtjagiknmaoilhaaHWMap
import Derived.Test.YtjagiknmaoilhaaHWOpen
import Derived.Test.YtjagiknmaoilhaaHWSort2
import Derived.Test.YtjagiknmaoilhaaProg
import Derived.KernelRfl
set_option linter.unusedSimpArgs false
set_option linter.unusedVariables false
set_option linter.unusedSectionVars false
namespace Go.Proofs.Ytjagiknmaoilhaa
open Go Go.HW Go.RowKit
attribute [local irreducible] WL WC WG wpList Code.wp

set_option maxHeartbeats 2000000 in
theorem pins_i32 (W : World) (d : Array Int) (A : Option Addr) (c n : Nat) (h : (row A c 21 1 n (nums .i32 d.toList)).ok W) (hM : d.toList.length = n) (hsz : n ≤ 2305843009213693952) (a b : Nat) (hab : a < b) (hb : b ≤ n) :
    Calls Try.prog 22 #[.slice A n c, .int .i64 a, .int .i64 b] W fun e w' => e = .returned (.bool (Go.Sort.partialInsertionSort Go.Sort.ltInt d a b).2) ∧ Fr (row A c 21 1 n (nums .i32 d.toList)).fp W w' ∧ (row A c 21 1 n (nums .i32 (Go.Sort.partialInsertionSort Go.Sort.ltInt d a b).1.toList)).ok w' := by
  have hlen0 := (owns_len h.r)
  unfold maxLen at hlen0
  have H : St W (row A c 21 1 n (nums .i32 d.toList)).fp [row A c 21 1 n (nums .i32 d.toList)] [] W := St.one h
  refine calls_enter (N := 133) Try.func22 rfl Try.ntmps22 rfl ?_
  refine WC_seq ?_
  refine WC_region ?_
  refine WL_x (x_assign (v := (.bool false)) rfl) ?_
  refine WL_nil ?_
  refine thenE_normal ?_
  refine WC_seq ?_
  refine WC_region ?_
  refine WL_x (x_move (v := .int .i64 _) rfl) ?_
  refine WL_x (x_binop rfl rfl (r_add_in (i64_in (by omega) (by omega)))) ?_
  refine WL_x (x_assign (v := .int .i64 _) rfl) ?_
  refine WL_nil ?_
  refine thenE_normal ?_
  refine WC_seq ?_
  refine WC_seq ?_
  refine WC_region ?_
  refine WL_x (x_assign (v := (.int .i64 0)) rfl) ?_
  refine WL_nil ?_
  refine thenE_normal ?_
  refine WC_block ?_
  refine WC_while (fun (s : Nat × Nat × Array Int) f w' => s.1 ≤ 5 ∧ a + 1 ≤ s.2.1 ∧ s.2.1 ≤ b ∧ s.2.2.toList.length = n ∧ Go.Sort.partialIns Go.Sort.ltInt a b s.1 s.2.1 s.2.2 = Go.Sort.partialIns Go.Sort.ltInt a b 5 (a + 1) d ∧ f 8 = .int .i64 (5 - (s.1 : Int)) ∧ f 7 = .int .i64 s.2.1 ∧ f 0 = .slice A n c ∧ f 1 = .int .i64 a ∧ f 2 = .int .i64 b ∧ St W (row A c 21 1 n (nums .i32 d.toList)).fp [row A c 21 1 n (nums .i32 s.2.2.toList)] [] w') (fun s => s.1) (s0 := (5, a + 1, d)) ?_ ?_
  · exact ⟨Nat.le_refl _, Nat.le_refl _, by simp only; omega, hM, rfl, rfl, (congrArg (Value.int .i64) (by first | omega | rfl | (simp only; omega))), rfl, rfl, rfl, H⟩
  · clear H hM
    rintro ⟨st, i0, M⟩ f w ⟨hst, hi1, hi2, hM, hO, h8, h7, h0, h1, h2, H⟩
    simp only at hst hi1 hi2 hM hO h8 h7 h0 h1 h2 H
    rw [← upd_self h8, ← upd_self h7, ← upd_self h0, ← upd_self h1, ← upd_self h2]
    refine WC_seq ?_
    refine WC_seq ?_
    refine WC_region ?_
    refine WL_x (x_move (v := .int .i64 _) rfl) ?_
    refine WL_x (x_binop rfl rfl (r_lss _ _ _ _)) ?_
    refine WL_nil ?_
    refine thenE_normal ?_
    refine WC_ifd rfl (fun h14 => ?_) (fun h14 => ?_)
    · obtain ⟨st, rfl⟩ : ∃ s0, st = s0 + 1 := ⟨st - 1, by omega⟩
      refine WC_skip ?_
      refine thenE_normal ?_
      refine WC_cut (fun (s : Nat × Array Int) f w' => Go.Sort.partialIns Go.Sort.ltInt a b st s.1 s.2 = Go.Sort.partialIns Go.Sort.ltInt a b (st + 1) i0 M ∧ a + 1 ≤ s.1 ∧ s.1 ≤ b ∧ s.2.toList.length = n ∧ f 8 = .int .i64 (5 - ((st + 1 : Nat) : Int)) ∧ f 7 = .int .i64 s.1 ∧ f 0 = .slice A n c ∧ f 1 = .int .i64 a ∧ f 2 = .int .i64 b ∧ St W (row A c 21 1 n (nums .i32 d.toList)).fp [row A c 21 1 n (nums .i32 s.2.toList)] [] w') ?_ ?_
      · refine WC_block ?_
        refine WC_cut (fun (i : Nat) f w' => i = Go.Sort.scanSorted Go.Sort.ltInt M b i0 ∧ a + 1 ≤ i ∧ i ≤ b ∧ f 8 = .int .i64 (5 - ((st + 1 : Nat) : Int)) ∧ f 7 = .int .i64 i ∧ f 0 = .slice A n c ∧ f 1 = .int .i64 a ∧ f 2 = .int .i64 b ∧ St W (row A c 21 1 n (nums .i32 d.toList)).fp [row A c 21 1 n (nums .i32 M.toList)] [] w') ?_ ?_
        · refine WC_block ?_
          refine WC_while (fun (i : Nat) f w' => Go.Sort.scanSorted Go.Sort.ltInt M b i = Go.Sort.scanSorted Go.Sort.ltInt M b i0 ∧ a + 1 ≤ i ∧ i ≤ b ∧ f 8 = .int .i64 (5 - ((st + 1 : Nat) : Int)) ∧ f 7 = .int .i64 i ∧ f 0 = .slice A n c ∧ f 1 = .int .i64 a ∧ f 2 = .int .i64 b ∧ St W (row A c 21 1 n (nums .i32 d.toList)).fp [row A c 21 1 n (nums .i32 M.toList)] [] w') (fun i => b - i) (s0 := i0) ?_ ?_
          · exact ⟨rfl, hi1, hi2, rfl, rfl, rfl, rfl, rfl, H⟩
          · clear H
            rintro i f w ⟨hI, hi3, hi4, h8, h7, h0, h1, h2, H⟩
            rw [← upd_self h8, ← upd_self h7, ← upd_self h0, ← upd_self h1, ← upd_self h2]
            refine WC_seq ?_
            refine WC_seq ?_
            refine WC_drawH (m := 16) (listed := [false, false, false, false, false, false, false, false, false, false, false, false, false, false, false, false]) 16 (by kernel_rfl) rfl rfl H ?_
            intro w H
            refine WG_take (i := 0) (listed' := [true, false, false, false, false, false, false, false, false, false, false, false, false, false, false, false]) rfl (by kernel_rfl) (fun w H => x_move (v := .int .i64 _) rfl) H rfl ?_
            refine WG_take (i := 1) (listed' := [true, true, false, false, false, false, false, false, false, false, false, false, false, false, false, false]) rfl (by kernel_rfl) (fun w H => x_move (v := .int .i64 _) rfl) H rfl ?_
            refine WG_take (i := 2) (listed' := [true, true, true, false, false, false, false, false, false, false, false, false, false, false, false, false]) rfl (by kernel_rfl) (fun w H => x_binop rfl rfl (r_lss _ _ _ _)) H rfl ?_
            refine WG_take (i := 3) (listed' := [true, true, true, true, false, false, false, false, false, false, false, false, false, false, false, false]) rfl (by kernel_rfl) (fun w H => x_move (v := .bool _) rfl) H rfl ?_
            first | refine WG_cased (t := 20) rfl (fun h20 => ?_) (fun h20 => ?_) | refine WG_casen (t := 20) rfl (fun h20 => ?_) (fun h20 => ?_) | refine WG_case (t := 20) rfl (fun h20 => ?_) (fun h20 => ?_)
            · refine WG_takeG (i := 4) (listed' := [true, true, true, true, true, false, false, false, false, false, false, false, false, false, false, false]) rfl (by kernel_rfl) rfl rfl rfl (fun w H => x_move (v := .slice _ _ _) rfl) H rfl ?_
              refine WG_takeG (i := 5) (listed' := [true, true, true, true, true, true, false, false, false, false, false, false, false, false, false, false]) rfl (by kernel_rfl) rfl rfl rfl (fun w H => x_move (v := .int .i64 _) rfl) H rfl ?_
              refine WG_takeG (i := 6) (listed' := [true, true, true, true, true, true, true, false, false, false, false, false, false, false, false, false]) rfl (by kernel_rfl) rfl rfl rfl (fun w H => x_indexAddr (s := 1) Try.underlying23 (by kernel_rfl) rfl rfl (by omega) (by omega) (by first | rfl | assumption | exact H.rsomen .zero (by omega) | exact H.rsomen (.succ .zero) (by omega) | exact H.rsomen (.succ (.succ .zero)) (by omega) | exact H.osomen .zero (by omega) | exact H.osomen (.succ .zero) (by omega) | exact H.osomen (.succ (.succ .zero)) (by omega)) rfl) H rfl ?_
              first | refine WG_takeG (i := 7) (listed' := [true, true, true, true, true, true, true, true, false, false, false, false, false, false, false, false]) rfl (by kernel_rfl) rfl rfl rfl (fun w H => x_load (v := .int .i32 _) Try.underlying21 rfl rfl (H.cellAt .zero rfl)) H rfl ?_ | refine WG_takeG (i := 7) (listed' := [true, true, true, true, true, true, true, true, false, false, false, false, false, false, false, false]) rfl (by kernel_rfl) rfl rfl rfl (fun w H => x_load (v := .int .i32 _) Try.underlying21 rfl rfl (H.cellAt (.succ .zero) rfl)) H rfl ?_ | refine WG_takeG (i := 7) (listed' := [true, true, true, true, true, true, true, true, false, false, false, false, false, false, false, false]) rfl (by kernel_rfl) rfl rfl rfl (fun w H => x_load (v := .int .i32 _) Try.underlying21 rfl rfl (H.cellAt (.succ (.succ .zero)) rfl)) H rfl ?_ | refine WG_takeG (i := 7) (listed' := [true, true, true, true, true, true, true, true, false, false, false, false, false, false, false, false]) rfl (by kernel_rfl) rfl rfl rfl (fun w H => x_load (v := .int .i32 _) Try.underlying21 rfl rfl (H.cellAt (.succ (.succ (.succ .zero))) rfl)) H rfl ?_ | refine WG_takeG (i := 7) (listed' := [true, true, true, true, true, true, true, true, false, false, false, false, false, false, false, false]) rfl (by kernel_rfl) rfl rfl rfl (fun w H => x_load (v := .int .i32 _) Try.underlying21 rfl rfl (H.cellAt (.succ (.succ (.succ (.succ .zero)))) rfl)) H rfl ?_ | refine WG_takeG (i := 7) (listed' := [true, true, true, true, true, true, true, true, false, false, false, false, false, false, false, false]) rfl (by kernel_rfl) rfl rfl rfl (fun w H => x_load Try.underlying21 rfl rfl (H.rnum .zero (by omega) (by omega))) H rfl ?_ | refine WG_takeG (i := 7) (listed' := [true, true, true, true, true, true, true, true, false, false, false, false, false, false, false, false]) rfl (by kernel_rfl) rfl rfl rfl (fun w H => x_load Try.underlying21 rfl rfl (H.rnum (.succ .zero) (by omega) (by omega))) H rfl ?_ | refine WG_takeG (i := 7) (listed' := [true, true, true, true, true, true, true, true, false, false, false, false, false, false, false, false]) rfl (by kernel_rfl) rfl rfl rfl (fun w H => x_load Try.underlying21 rfl rfl (H.rnum (.succ (.succ .zero)) (by omega) (by omega))) H rfl ?_ | refine WG_takeG (i := 7) (listed' := [true, true, true, true, true, true, true, true, false, false, false, false, false, false, false, false]) rfl (by kernel_rfl) rfl rfl rfl (fun w H => x_load Try.underlying21 rfl rfl (H.onum .zero (by omega) (by omega))) H rfl ?_ | refine WG_takeG (i := 7) (listed' := [true, true, true, true, true, true, true, true, false, false, false, false, false, false, false, false]) rfl (by kernel_rfl) rfl rfl rfl (fun w H => x_load Try.underlying21 rfl rfl (H.onum (.succ .zero) (by omega) (by omega))) H rfl ?_ | refine WG_takeG (i := 7) (listed' := [true, true, true, true, true, true, true, true, false, false, false, false, false, false, false, false]) rfl (by kernel_rfl) rfl rfl rfl (fun w H => x_load Try.underlying21 rfl rfl (H.onum (.succ (.succ .zero)) (by omega) (by omega))) H rfl ?_
              refine WG_takeG (i := 8) (listed' := [true, true, true, true, true, true, true, true, true, false, false, false, false, false, false, false]) rfl (by kernel_rfl) rfl rfl rfl (fun w H => x_move (v := .slice _ _ _) rfl) H rfl ?_
              refine WG_takeG (i := 9) (listed' := [true, true, true, true, true, true, true, true, true, true, false, false, false, false, false, false]) rfl (by kernel_rfl) rfl rfl rfl (fun w H => x_move (v := .int .i64 _) rfl) H rfl ?_
              refine WG_takeG (i := 10) (listed' := [true, true, true, true, true, true, true, true, true, true, true, false, false, false, false, false]) rfl (by kernel_rfl) rfl rfl rfl (fun w H => x_binop rfl rfl (r_sub_in (i64_in (by omega) (by omega)))) H rfl ?_
              refine WG_takeG (i := 11) (listed' := [true, true, true, true, true, true, true, true, true, true, true, true, false, false, false, false]) rfl (by kernel_rfl) rfl rfl rfl (fun w H => x_indexAddr (s := 1) Try.underlying23 (by kernel_rfl) rfl rfl (by omega) (by omega) (by first | rfl | assumption | exact H.rsomen .zero (by omega) | exact H.rsomen (.succ .zero) (by omega) | exact H.rsomen (.succ (.succ .zero)) (by omega) | exact H.osomen .zero (by omega) | exact H.osomen (.succ .zero) (by omega) | exact H.osomen (.succ (.succ .zero)) (by omega)) rfl) H rfl ?_
              first | refine WG_takeG (i := 12) (listed' := [true, true, true, true, true, true, true, true, true, true, true, true, true, false, false, false]) rfl (by kernel_rfl) rfl rfl rfl (fun w H => x_load (v := .int .i32 _) Try.underlying21 rfl rfl (H.cellAt .zero rfl)) H rfl ?_ | refine WG_takeG (i := 12) (listed' := [true, true, true, true, true, true, true, true, true, true, true, true, true, false, false, false]) rfl (by kernel_rfl) rfl rfl rfl (fun w H => x_load (v := .int .i32 _) Try.underlying21 rfl rfl (H.cellAt (.succ .zero) rfl)) H rfl ?_ | refine WG_takeG (i := 12) (listed' := [true, true, true, true, true, true, true, true, true, true, true, true, true, false, false, false]) rfl (by kernel_rfl) rfl rfl rfl (fun w H => x_load (v := .int .i32 _) Try.underlying21 rfl rfl (H.cellAt (.succ (.succ .zero)) rfl)) H rfl ?_ | refine WG_takeG (i := 12) (listed' := [true, true, true, true, true, true, true, true, true, true, true, true, true, false, false, false]) rfl (by kernel_rfl) rfl rfl rfl (fun w H => x_load (v := .int .i32 _) Try.underlying21 rfl rfl (H.cellAt (.succ (.succ (.succ .zero))) rfl)) H rfl ?_ | refine WG_takeG (i := 12) (listed' := [true, true, true, true, true, true, true, true, true, true, true, true, true, false, false, false]) rfl (by kernel_rfl) rfl rfl rfl (fun w H => x_load (v := .int .i32 _) Try.underlying21 rfl rfl (H.cellAt (.succ (.succ (.succ (.succ .zero)))) rfl)) H rfl ?_ | refine WG_takeG (i := 12) (listed' := [true, true, true, true, true, true, true, true, true, true, true, true, true, false, false, false]) rfl (by kernel_rfl) rfl rfl rfl (fun w H => x_load Try.underlying21 rfl rfl (H.rnum .zero (by omega) (by omega))) H rfl ?_ | refine WG_takeG (i := 12) (listed' := [true, true, true, true, true, true, true, true, true, true, true, true, true, false, false, false]) rfl (by kernel_rfl) rfl rfl rfl (fun w H => x_load Try.underlying21 rfl rfl (H.rnum (.succ .zero) (by omega) (by omega))) H rfl ?_ | refine WG_takeG (i := 12) (listed' := [true, true, true, true, true, true, true, true, true, true, true, true, true, false, false, false]) rfl (by kernel_rfl) rfl rfl rfl (fun w H => x_load Try.underlying21 rfl rfl (H.rnum (.succ (.succ .zero)) (by omega) (by omega))) H rfl ?_ | refine WG_takeG (i := 12) (listed' := [true, true, true, true, true, true, true, true, true, true, true, true, true, false, false, false]) rfl (by kernel_rfl) rfl rfl rfl (fun w H => x_load Try.underlying21 rfl rfl (H.onum .zero (by omega) (by omega))) H rfl ?_ | refine WG_takeG (i := 12) (listed' := [true, true, true, true, true, true, true, true, true, true, true, true, true, false, false, false]) rfl (by kernel_rfl) rfl rfl rfl (fun w H => x_load Try.underlying21 rfl rfl (H.onum (.succ .zero) (by omega) (by omega))) H rfl ?_ | refine WG_takeG (i := 12) (listed' := [true, true, true, true, true, true, true, true, true, true, true, true, true, false, false, false]) rfl (by kernel_rfl) rfl rfl rfl (fun w H => x_load Try.underlying21 rfl rfl (H.onum (.succ (.succ .zero)) (by omega) (by omega))) H rfl ?_
              refine WG_midG (i := 13) (listed' := [true, true, true, true, true, true, true, true, true, true, true, true, true, true, false, false]) rfl rfl rfl rfl rfl (by kernel_rfl) rfl rfl ?_
              refine WL_guard_yes rfl rfl rfl ?_
              refine WL_call (vs := [.int .i32 _, .int .i32 _]) Try.func23 rfl rfl rfl (less_i32 _ _ _) ?_
              rintro _ w ⟨rfl, hf⟩
              refine ⟨_, rfl, ?_⟩
              replace H := H.quiet hf
              refine WL_nil ?_
              refine mid_mk H ?_
              refine WG_takeG (i := 14) (listed' := [true, true, true, true, true, true, true, true, true, true, true, true, true, true, true, false]) rfl (by kernel_rfl) rfl rfl rfl (fun w H => x_not rfl) H rfl ?_
              refine WG_take (i := 15) (listed' := [true, true, true, true, true, true, true, true, true, true, true, true, true, true, true, true]) rfl (by kernel_rfl) (fun w H => x_pick (v := .bool _) rfl rfl) H rfl ?_
              refine WG_done (by kernel_rfl) ?_
              refine thenE_normal ?_
              refine WC_ifn rfl (fun h32 => ?_) (fun h32 => ?_)
              · have hK := scanSorted_go (d := M) (b := b) (i := i) (by omega) (lt_no h32 (by omega) (by omega))
                refine WC_skip ?_
                refine thenE_normal ?_
                refine WC_block ?_
                refine WC_region ?_
                refine WL_x (x_move (v := .int .i64 _) rfl) ?_
                refine WL_x (x_binop rfl rfl (r_add_in (i64_in (by omega) (by omega)))) ?_
                refine WL_x (x_assign (v := .int .i64 _) rfl) ?_
                refine WL_nil ?_
                refine inBlockE_normal ?_
                refine thenE_normal ?_
                exact ⟨i + 1, ⟨by rw [← hI, hK], by omega, by omega, rfl, (congrArg (Value.int .i64) (by first | omega | rfl | (simp only; omega))), rfl, rfl, rfl, H⟩, by omega⟩
              · have hK := scanSorted_end (d := M) (b := b) (i := i) (.inr (lt_yes h32 (by omega) (by omega)))
                refine WC_exit ?_
                refine thenE_exit ?_
                refine thenE_exit ?_
                refine inBlockE_exit ?_
                refine thenE_normal ?_
                exact ⟨i, by rw [← hI, hK], by omega, by omega, rfl, rfl, rfl, rfl, rfl, H⟩
            · have hK := scanSorted_end (d := M) (b := b) (i := i) (.inl (by omega))
              refine WG_skip (i := 4) (listed' := [true, true, true, true, true, false, false, false, false, false, false, false, false, false, false, false]) rfl (by kernel_rfl) rfl rfl rfl H rfl ?_
              refine WG_skip (i := 5) (listed' := [true, true, true, true, true, true, false, false, false, false, false, false, false, false, false, false]) rfl (by kernel_rfl) rfl rfl rfl H rfl ?_
              refine WG_skip (i := 6) (listed' := [true, true, true, true, true, true, true, false, false, false, false, false, false, false, false, false]) rfl (by kernel_rfl) rfl rfl rfl H rfl ?_
              refine WG_skip (i := 7) (listed' := [true, true, true, true, true, true, true, true, false, false, false, false, false, false, false, false]) rfl (by kernel_rfl) rfl rfl rfl H rfl ?_
              refine WG_skip (i := 8) (listed' := [true, true, true, true, true, true, true, true, true, false, false, false, false, false, false, false]) rfl (by kernel_rfl) rfl rfl rfl H rfl ?_
              refine WG_skip (i := 9) (listed' := [true, true, true, true, true, true, true, true, true, true, false, false, false, false, false, false]) rfl (by kernel_rfl) rfl rfl rfl H rfl ?_
              refine WG_skip (i := 10) (listed' := [true, true, true, true, true, true, true, true, true, true, true, false, false, false, false, false]) rfl (by kernel_rfl) rfl rfl rfl H rfl ?_
              refine WG_skip (i := 11) (listed' := [true, true, true, true, true, true, true, true, true, true, true, true, false, false, false, false]) rfl (by kernel_rfl) rfl rfl rfl H rfl ?_
              refine WG_skip (i := 12) (listed' := [true, true, true, true, true, true, true, true, true, true, true, true, true, false, false, false]) rfl (by kernel_rfl) rfl rfl rfl H rfl ?_
              refine WG_skip (i := 13) (listed' := [true, true, true, true, true, true, true, true, true, true, true, true, true, true, false, false]) rfl (by kernel_rfl) rfl rfl rfl H rfl ?_
              refine WG_skip (i := 14) (listed' := [true, true, true, true, true, true, true, true, true, true, true, true, true, true, true, false]) rfl (by kernel_rfl) rfl rfl rfl H rfl ?_
              refine WG_take (i := 15) (listed' := [true, true, true, true, true, true, true, true, true, true, true, true, true, true, true, true]) rfl (by kernel_rfl) (fun w H => x_pick (v := .bool _) rfl rfl) H rfl ?_
              refine WG_done (by kernel_rfl) ?_
              refine thenE_normal ?_
              refine WC_no rfl ?_
              refine WC_exit ?_
              refine thenE_exit ?_
              refine thenE_exit ?_
              refine inBlockE_exit ?_
              refine thenE_normal ?_
              exact ⟨i, by rw [← hI, hK], by omega, by omega, rfl, rfl, rfl, rfl, rfl, H⟩
        · clear H
          rintro i f w ⟨hi, hi3, hi4, h8, h7, h0, h1, h2, H⟩
          rw [← upd_self h8, ← upd_self h7, ← upd_self h0, ← upd_self h1, ← upd_self h2]
          refine WC_seq ?_
          refine WC_seq ?_
          refine WC_region ?_
          refine WL_x (x_move (v := .int .i64 _) rfl) ?_
          refine WL_x (x_move (v := .int .i64 _) rfl) ?_
          refine WL_x (x_binop rfl rfl (r_eql _ _ _ _)) ?_
          refine WL_nil ?_
          refine thenE_normal ?_
          refine WC_ifd rfl (fun h37 => ?_) (fun h37 => ?_)
          · have hR : Go.Sort.partialInsertionSort Go.Sort.ltInt d a b = (M, true) := by rw [Go.Sort.partialInsertionSort, ← hO, pins_true (by omega)]
            refine WC_seq ?_
            refine WC_region ?_
            refine WL_x (x_assign (v := (.bool true)) rfl) ?_
            refine WL_nil ?_
            refine thenE_normal ?_
            refine WC_ret ?_
            refine thenE_ret ?_
            refine inBlockE_ret ?_
            refine thenE_ret ?_
            refine thenE_ret ?_
            refine inBlockE_ret ?_
            refine thenE_ret ?_
            refine ends1 (v := .bool _) Try.results22 rfl ?_
            rw [hR]
            exact ⟨rfl, H.fr, H.ok _ List.mem_cons_self⟩
          · refine WC_skip ?_
            refine thenE_normal ?_
            refine WC_seq ?_
            refine WC_seq ?_
            refine WC_region ?_
            refine WL_x (x_move (v := .int .i64 _) rfl) ?_
            refine WL_x (x_move (v := .int .i64 _) rfl) ?_
            refine WL_x (x_binop rfl rfl (r_sub_in (i64_in (by omega) (by omega)))) ?_
            refine WL_x (x_binop rfl rfl (r_lss _ _ _ _)) ?_
            refine WL_nil ?_
            refine thenE_normal ?_
            refine WC_ifd rfl (fun h41 => ?_) (fun h41 => ?_)
            · have hR : Go.Sort.partialInsertionSort Go.Sort.ltInt d a b = (M, false) := by rw [Go.Sort.partialInsertionSort, ← hO, pins_false (by omega) (by omega)]
              refine WC_seq ?_
              refine WC_region ?_
              refine WL_x (x_assign (v := (.bool false)) rfl) ?_
              refine WL_nil ?_
              refine thenE_normal ?_
              refine WC_ret ?_
              refine thenE_ret ?_
              refine inBlockE_ret ?_
              refine thenE_ret ?_
              refine thenE_ret ?_
              refine inBlockE_ret ?_
              refine thenE_ret ?_
              refine ends1 (v := .bool _) Try.results22 rfl ?_
              rw [hR]
              exact ⟨rfl, H.fr, H.ok _ List.mem_cons_self⟩
            · refine WC_skip ?_
              refine thenE_normal ?_
              refine WC_seq ?_
              refine WC_drawT (m := 18) (listed := [false, false, false, false, false, false, false, false, false, false, false, false, false, false, false, false, false, false]) (by kernel_rfl) rfl rfl H ?_
              intro w H
              refine WG_take (i := 2) (listed' := [false, false, true, false, false, false, false, false, false, false, false, false, false, false, false, false, false, false]) rfl (by kernel_rfl) (fun w _ => x_move (v := .slice _ _ _) rfl) trivial rfl ?_
              refine WG_take (i := 3) (listed' := [false, false, true, true, false, false, false, false, false, false, false, false, false, false, false, false, false, false]) rfl (by kernel_rfl) (fun w _ => x_move (v := .int .i64 _) rfl) trivial rfl ?_
              refine WG_take (i := 4) (listed' := [false, false, true, true, true, false, false, false, false, false, false, false, false, false, false, false, false, false]) rfl (by kernel_rfl) (fun w _ => x_binop rfl rfl (r_sub_in (i64_in (by omega) (by omega)))) trivial rfl ?_
              refine WG_true (S := fun w => St W (row A c 21 1 n (nums .i32 d.toList)).fp [row A c 21 1 n (nums .i32 M.toList)] [] w) (n := 15) rfl ?_
              refine WG_take (i := 0) (listed' := [true, false, true, true, true, false, false, false, false, false, false, false, false, false, false, false, false, false]) rfl (by kernel_rfl) (fun w H => x_move (v := .slice _ _ _) rfl) H rfl ?_
              refine WG_take (i := 1) (listed' := [true, true, true, true, true, false, false, false, false, false, false, false, false, false, false, false, false, false]) rfl (by kernel_rfl) (fun w H => x_move (v := .int .i64 _) rfl) H rfl ?_
              refine WG_take (i := 5) (listed' := [true, true, true, true, true, true, false, false, false, false, false, false, false, false, false, false, false, false]) rfl (by kernel_rfl) (fun w H => x_move (v := .slice _ _ _) rfl) H rfl ?_
              refine WG_take (i := 6) (listed' := [true, true, true, true, true, true, true, false, false, false, false, false, false, false, false, false, false, false]) rfl (by kernel_rfl) (fun w H => x_move (v := .int .i64 _) rfl) H rfl ?_
              refine WG_take (i := 7) (listed' := [true, true, true, true, true, true, true, true, false, false, false, false, false, false, false, false, false, false]) rfl (by kernel_rfl) (fun w H => x_binop rfl rfl (r_sub_in (i64_in (by omega) (by omega)))) H rfl ?_
              refine WG_take (i := 8) (listed' := [true, true, true, true, true, true, true, true, true, false, false, false, false, false, false, false, false, false]) rfl (by kernel_rfl) (fun w H => x_indexAddr (s := 1) Try.underlying23 (by kernel_rfl) rfl rfl (by omega) (by omega) (by first | rfl | assumption | exact H.rsomen .zero (by omega) | exact H.rsomen (.succ .zero) (by omega) | exact H.rsomen (.succ (.succ .zero)) (by omega) | exact H.osomen .zero (by omega) | exact H.osomen (.succ .zero) (by omega) | exact H.osomen (.succ (.succ .zero)) (by omega)) rfl) H rfl ?_
              first | refine WG_take (i := 9) (listed' := [true, true, true, true, true, true, true, true, true, true, false, false, false, false, false, false, false, false]) rfl (by kernel_rfl) (fun w H => x_load (v := .int .i32 _) Try.underlying21 rfl rfl (H.cellAt .zero rfl)) H rfl ?_ | refine WG_take (i := 9) (listed' := [true, true, true, true, true, true, true, true, true, true, false, false, false, false, false, false, false, false]) rfl (by kernel_rfl) (fun w H => x_load (v := .int .i32 _) Try.underlying21 rfl rfl (H.cellAt (.succ .zero) rfl)) H rfl ?_ | refine WG_take (i := 9) (listed' := [true, true, true, true, true, true, true, true, true, true, false, false, false, false, false, false, false, false]) rfl (by kernel_rfl) (fun w H => x_load (v := .int .i32 _) Try.underlying21 rfl rfl (H.cellAt (.succ (.succ .zero)) rfl)) H rfl ?_ | refine WG_take (i := 9) (listed' := [true, true, true, true, true, true, true, true, true, true, false, false, false, false, false, false, false, false]) rfl (by kernel_rfl) (fun w H => x_load (v := .int .i32 _) Try.underlying21 rfl rfl (H.cellAt (.succ (.succ (.succ .zero))) rfl)) H rfl ?_ | refine WG_take (i := 9) (listed' := [true, true, true, true, true, true, true, true, true, true, false, false, false, false, false, false, false, false]) rfl (by kernel_rfl) (fun w H => x_load (v := .int .i32 _) Try.underlying21 rfl rfl (H.cellAt (.succ (.succ (.succ (.succ .zero)))) rfl)) H rfl ?_ | refine WG_take (i := 9) (listed' := [true, true, true, true, true, true, true, true, true, true, false, false, false, false, false, false, false, false]) rfl (by kernel_rfl) (fun w H => x_load Try.underlying21 rfl rfl (H.rnum .zero (by omega) (by omega))) H rfl ?_ | refine WG_take (i := 9) (listed' := [true, true, true, true, true, true, true, true, true, true, false, false, false, false, false, false, false, false]) rfl (by kernel_rfl) (fun w H => x_load Try.underlying21 rfl rfl (H.rnum (.succ .zero) (by omega) (by omega))) H rfl ?_ | refine WG_take (i := 9) (listed' := [true, true, true, true, true, true, true, true, true, true, false, false, false, false, false, false, false, false]) rfl (by kernel_rfl) (fun w H => x_load Try.underlying21 rfl rfl (H.rnum (.succ (.succ .zero)) (by omega) (by omega))) H rfl ?_ | refine WG_take (i := 9) (listed' := [true, true, true, true, true, true, true, true, true, true, false, false, false, false, false, false, false, false]) rfl (by kernel_rfl) (fun w H => x_load Try.underlying21 rfl rfl (H.onum .zero (by omega) (by omega))) H rfl ?_ | refine WG_take (i := 9) (listed' := [true, true, true, true, true, true, true, true, true, true, false, false, false, false, false, false, false, false]) rfl (by kernel_rfl) (fun w H => x_load Try.underlying21 rfl rfl (H.onum (.succ .zero) (by omega) (by omega))) H rfl ?_ | refine WG_take (i := 9) (listed' := [true, true, true, true, true, true, true, true, true, true, false, false, false, false, false, false, false, false]) rfl (by kernel_rfl) (fun w H => x_load Try.underlying21 rfl rfl (H.onum (.succ (.succ .zero)) (by omega) (by omega))) H rfl ?_
              refine WG_take (i := 10) (listed' := [true, true, true, true, true, true, true, true, true, true, true, false, false, false, false, false, false, false]) rfl (by kernel_rfl) (fun w H => x_move (v := .slice _ _ _) rfl) H rfl ?_
              refine WG_take (i := 11) (listed' := [true, true, true, true, true, true, true, true, true, true, true, true, false, false, false, false, false, false]) rfl (by kernel_rfl) (fun w H => x_move (v := .int .i64 _) rfl) H rfl ?_
              refine WG_take (i := 12) (listed' := [true, true, true, true, true, true, true, true, true, true, true, true, true, false, false, false, false, false]) rfl (by kernel_rfl) (fun w H => x_indexAddr (s := 1) Try.underlying23 (by kernel_rfl) rfl rfl (by omega) (by omega) (by first | rfl | assumption | exact H.rsomen .zero (by omega) | exact H.rsomen (.succ .zero) (by omega) | exact H.rsomen (.succ (.succ .zero)) (by omega) | exact H.osomen .zero (by omega) | exact H.osomen (.succ .zero) (by omega) | exact H.osomen (.succ (.succ .zero)) (by omega)) rfl) H rfl ?_
              first | refine WG_take (i := 13) (listed' := [true, true, true, true, true, true, true, true, true, true, true, true, true, true, false, false, false, false]) rfl (by kernel_rfl) (fun w H => x_load (v := .int .i32 _) Try.underlying21 rfl rfl (H.cellAt .zero rfl)) H rfl ?_ | refine WG_take (i := 13) (listed' := [true, true, true, true, true, true, true, true, true, true, true, true, true, true, false, false, false, false]) rfl (by kernel_rfl) (fun w H => x_load (v := .int .i32 _) Try.underlying21 rfl rfl (H.cellAt (.succ .zero) rfl)) H rfl ?_ | refine WG_take (i := 13) (listed' := [true, true, true, true, true, true, true, true, true, true, true, true, true, true, false, false, false, false]) rfl (by kernel_rfl) (fun w H => x_load (v := .int .i32 _) Try.underlying21 rfl rfl (H.cellAt (.succ (.succ .zero)) rfl)) H rfl ?_ | refine WG_take (i := 13) (listed' := [true, true, true, true, true, true, true, true, true, true, true, true, true, true, false, false, false, false]) rfl (by kernel_rfl) (fun w H => x_load (v := .int .i32 _) Try.underlying21 rfl rfl (H.cellAt (.succ (.succ (.succ .zero))) rfl)) H rfl ?_ | refine WG_take (i := 13) (listed' := [true, true, true, true, true, true, true, true, true, true, true, true, true, true, false, false, false, false]) rfl (by kernel_rfl) (fun w H => x_load (v := .int .i32 _) Try.underlying21 rfl rfl (H.cellAt (.succ (.succ (.succ (.succ .zero)))) rfl)) H rfl ?_ | refine WG_take (i := 13) (listed' := [true, true, true, true, true, true, true, true, true, true, true, true, true, true, false, false, false, false]) rfl (by kernel_rfl) (fun w H => x_load Try.underlying21 rfl rfl (H.rnum .zero (by omega) (by omega))) H rfl ?_ | refine WG_take (i := 13) (listed' := [true, true, true, true, true, true, true, true, true, true, true, true, true, true, false, false, false, false]) rfl (by kernel_rfl) (fun w H => x_load Try.underlying21 rfl rfl (H.rnum (.succ .zero) (by omega) (by omega))) H rfl ?_ | refine WG_take (i := 13) (listed' := [true, true, true, true, true, true, true, true, true, true, true, true, true, true, false, false, false, false]) rfl (by kernel_rfl) (fun w H => x_load Try.underlying21 rfl rfl (H.rnum (.succ (.succ .zero)) (by omega) (by omega))) H rfl ?_ | refine WG_take (i := 13) (listed' := [true, true, true, true, true, true, true, true, true, true, true, true, true, true, false, false, false, false]) rfl (by kernel_rfl) (fun w H => x_load Try.underlying21 rfl rfl (H.onum .zero (by omega) (by omega))) H rfl ?_ | refine WG_take (i := 13) (listed' := [true, true, true, true, true, true, true, true, true, true, true, true, true, true, false, false, false, false]) rfl (by kernel_rfl) (fun w H => x_load Try.underlying21 rfl rfl (H.onum (.succ .zero) (by omega) (by omega))) H rfl ?_ | refine WG_take (i := 13) (listed' := [true, true, true, true, true, true, true, true, true, true, true, true, true, true, false, false, false, false]) rfl (by kernel_rfl) (fun w H => x_load Try.underlying21 rfl rfl (H.onum (.succ (.succ .zero)) (by omega) (by omega))) H rfl ?_
              refine WG_take (i := 14) (listed' := [true, true, true, true, true, true, true, true, true, true, true, true, true, true, true, false, false, false]) rfl (by kernel_rfl) (fun w H => x_indexAddr (s := 1) Try.underlying23 (by kernel_rfl) rfl rfl (by omega) (by omega) (by first | rfl | assumption | exact H.rsomen .zero (by omega) | exact H.rsomen (.succ .zero) (by omega) | exact H.rsomen (.succ (.succ .zero)) (by omega) | exact H.osomen .zero (by omega) | exact H.osomen (.succ .zero) (by omega) | exact H.osomen (.succ (.succ .zero)) (by omega)) rfl) H rfl ?_
              refine WG_next (fun w => St W (row A c 21 1 n (nums .i32 d.toList)).fp [row A c 21 1 n (nums .i32 (M.setIfInBounds i M[(i - 1)]!).toList)] [] w) 17 (listed' := [true, true, true, true, true, true, true, true, true, true, true, true, true, true, true, true, false, false]) rfl rfl (by kernel_rfl) rfl ?_
              refine WL_storeR (v := .int .i32 _) (o := i) (n := n) (xs := nums .i32 M.toList) (xs' := nums .i32 (M.setIfInBounds i M[(i - 1)]!).toList) Try.underlying21 rfl rfl rfl rfl (by kernel_rfl) (by omega) H .zero (by rw [nums_length]; omega) (nums_setA _ _ _ (nth_at (by omega))) ?_
              clear H; intro w H
              refine WL_nil ?_
              refine nx_mk ?_
              refine WG_take (i := 16) (listed' := [true, true, true, true, true, true, true, true, true, true, true, true, true, true, true, true, true, false]) rfl (by kernel_rfl) (fun w H => x_indexAddr (s := 1) Try.underlying23 (by kernel_rfl) rfl rfl (by omega) (by omega) (H.osomen .zero (by rw [len_setA]; omega)) rfl) H rfl ?_
              refine WG_fin (listed' := [true, true, true, true, true, true, true, true, true, true, true, true, true, true, true, true, true, true]) rfl rfl (by kernel_rfl) rfl (by kernel_rfl) ?_
              refine WL_storeR (v := .int .i32 _) (o := (i - 1)) (n := n) (xs := nums .i32 (M.setIfInBounds i M[(i - 1)]!).toList) (xs' := nums .i32 (Go.Sort.swp M i (i - 1)).toList) Try.underlying21 rfl rfl rfl rfl (by kernel_rfl) (by omega) H .zero (by rw [nums_length, len_setA]; omega) (nums_setA _ _ _ (nth_at (by omega))) ?_
              clear H; intro w H
              have hM2 : (Go.Sort.swp M i (i - 1)).toList.length = n := by rw [len_swp]; exact hM
              refine WL_nil ?_
              refine fin_mk ?_
              refine thenE_normal ?_
              refine WC_cut (fun (M3 : Array Int) f w' => M3 = Go.Sort.fixDown Go.Sort.ltInt a i (Go.Sort.swp M i (i - 1)) ∧ M3.toList.length = n ∧ f 8 = .int .i64 (5 - ((st + 1 : Nat) : Int)) ∧ f 7 = .int .i64 i ∧ f 0 = .slice A n c ∧ f 1 = .int .i64 a ∧ f 2 = .int .i64 b ∧ St W (row A c 21 1 n (nums .i32 d.toList)).fp [row A c 21 1 n (nums .i32 M3.toList)] [] w') ?_ ?_
              · refine WC_seq ?_
                refine WC_region ?_
                refine WL_x (x_move (v := .int .i64 _) rfl) ?_
                refine WL_x (x_move (v := .int .i64 _) rfl) ?_
                refine WL_x (x_binop rfl rfl (r_sub_in (i64_in (by omega) (by omega)))) ?_
                refine WL_x (x_binop rfl rfl (r_geq _ _ _ _)) ?_
                refine WL_nil ?_
                refine thenE_normal ?_
                first | refine WC_ifd rfl (fun h61 => ?_) (fun h61 => ?_) | refine WC_ifn rfl (fun h61 => ?_) (fun h61 => ?_) | refine WC_if rfl (fun h61 => ?_) (fun h61 => ?_)
                · refine WC_seq ?_
                  refine WC_region ?_
                  refine WL_x (x_move (v := .int .i64 _) rfl) ?_
                  refine WL_x (x_binop rfl rfl (r_sub_in (i64_in (by omega) (by omega)))) ?_
                  refine WL_x (x_assign (v := .int .i64 _) rfl) ?_
                  refine WL_nil ?_
                  refine thenE_normal ?_
                  refine WC_block ?_
                  refine WC_while (fun (s : Nat × Array Int) f w' => s.1 ≤ i - 1 ∧ s.2.toList.length = n ∧ Go.Sort.shiftDown Go.Sort.ltInt s.1 s.2 = Go.Sort.shiftDown Go.Sort.ltInt (i - 1) (Go.Sort.swp M i (i - 1)) ∧ f 9 = .int .i64 s.1 ∧ f 8 = .int .i64 (5 - ((st + 1 : Nat) : Int)) ∧ f 7 = .int .i64 i ∧ f 0 = .slice A n c ∧ f 1 = .int .i64 a ∧ f 2 = .int .i64 b ∧ St W (row A c 21 1 n (nums .i32 d.toList)).fp [row A c 21 1 n (nums .i32 s.2.toList)] [] w') (fun s => s.1) (s0 := (i - 1, Go.Sort.swp M i (i - 1))) ?_ ?_
                  · exact ⟨Nat.le_refl _, hM2, rfl, (congrArg (Value.int .i64) (by first | omega | rfl | (simp only; omega))), rfl, rfl, rfl, rfl, rfl, H⟩
                  · clear H hM hM2
                    rintro ⟨j, K⟩ f w ⟨hj, hM, hI, h9, h8, h7, h0, h1, h2, H⟩
                    simp only at hj hM hI h9 h8 h7 h0 h1 h2 H
                    rw [← upd_self h9, ← upd_self h8, ← upd_self h7, ← upd_self h0, ← upd_self h1, ← upd_self h2]
                    refine WC_seq ?_
                    refine WC_seq ?_
                    refine WC_region ?_
                    refine WL_x (x_move (v := .int .i64 _) rfl) ?_
                    refine WL_x (x_binop rfl rfl (r_geq _ _ _ _)) ?_
                    refine WL_nil ?_
                    refine thenE_normal ?_
                    refine WC_ifd rfl (fun h65 => ?_) (fun h65 => ?_)
                    · obtain ⟨j, rfl⟩ : ∃ j0, j = j0 + 1 := ⟨j - 1, by omega⟩
                      refine WC_skip ?_
                      refine thenE_normal ?_
                      refine WC_seq ?_
                      refine WC_block ?_
                      refine WC_seq ?_
                      refine WC_seq ?_
                      refine WC_drawH (m := 11) (listed := [false, false, false, false, false, false, false, false, false, false, false]) 11 (by kernel_rfl) rfl rfl H ?_
                      intro w H
                      refine WG_take (i := 0) (listed' := [true, false, false, false, false, false, false, false, false, false, false]) rfl (by kernel_rfl) (fun w H => x_move (v := .slice _ _ _) rfl) H rfl ?_
                      refine WG_take (i := 1) (listed' := [true, true, false, false, false, false, false, false, false, false, false]) rfl (by kernel_rfl) (fun w H => x_move (v := .int .i64 _) rfl) H rfl ?_
                      refine WG_take (i := 2) (listed' := [true, true, true, false, false, false, false, false, false, false, false]) rfl (by kernel_rfl) (fun w H => x_indexAddr (s := 1) Try.underlying23 (by kernel_rfl) rfl rfl (by omega) (by omega) (by first | rfl | assumption | exact H.rsomen .zero (by omega) | exact H.rsomen (.succ .zero) (by omega) | exact H.rsomen (.succ (.succ .zero)) (by omega) | exact H.osomen .zero (by omega) | exact H.osomen (.succ .zero) (by omega) | exact H.osomen (.succ (.succ .zero)) (by omega)) rfl) H rfl ?_
                      first | refine WG_take (i := 3) (listed' := [true, true, true, true, false, false, false, false, false, false, false]) rfl (by kernel_rfl) (fun w H => x_load (v := .int .i32 _) Try.underlying21 rfl rfl (H.cellAt .zero rfl)) H rfl ?_ | refine WG_take (i := 3) (listed' := [true, true, true, true, false, false, false, false, false, false, false]) rfl (by kernel_rfl) (fun w H => x_load (v := .int .i32 _) Try.underlying21 rfl rfl (H.cellAt (.succ .zero) rfl)) H rfl ?_ | refine WG_take (i := 3) (listed' := [true, true, true, true, false, false, false, false, false, false, false]) rfl (by kernel_rfl) (fun w H => x_load (v := .int .i32 _) Try.underlying21 rfl rfl (H.cellAt (.succ (.succ .zero)) rfl)) H rfl ?_ | refine WG_take (i := 3) (listed' := [true, true, true, true, false, false, false, false, false, false, false]) rfl (by kernel_rfl) (fun w H => x_load (v := .int .i32 _) Try.underlying21 rfl rfl (H.cellAt (.succ (.succ (.succ .zero))) rfl)) H rfl ?_ | refine WG_take (i := 3) (listed' := [true, true, true, true, false, false, false, false, false, false, false]) rfl (by kernel_rfl) (fun w H => x_load (v := .int .i32 _) Try.underlying21 rfl rfl (H.cellAt (.succ (.succ (.succ (.succ .zero)))) rfl)) H rfl ?_ | refine WG_take (i := 3) (listed' := [true, true, true, true, false, false, false, false, false, false, false]) rfl (by kernel_rfl) (fun w H => x_load Try.underlying21 rfl rfl (H.rnum .zero (by omega) (by omega))) H rfl ?_ | refine WG_take (i := 3) (listed' := [true, true, true, true, false, false, false, false, false, false, false]) rfl (by kernel_rfl) (fun w H => x_load Try.underlying21 rfl rfl (H.rnum (.succ .zero) (by omega) (by omega))) H rfl ?_ | refine WG_take (i := 3) (listed' := [true, true, true, true, false, false, false, false, false, false, false]) rfl (by kernel_rfl) (fun w H => x_load Try.underlying21 rfl rfl (H.rnum (.succ (.succ .zero)) (by omega) (by omega))) H rfl ?_ | refine WG_take (i := 3) (listed' := [true, true, true, true, false, false, false, false, false, false, false]) rfl (by kernel_rfl) (fun w H => x_load Try.underlying21 rfl rfl (H.onum .zero (by omega) (by omega))) H rfl ?_ | refine WG_take (i := 3) (listed' := [true, true, true, true, false, false, false, false, false, false, false]) rfl (by kernel_rfl) (fun w H => x_load Try.underlying21 rfl rfl (H.onum (.succ .zero) (by omega) (by omega))) H rfl ?_ | refine WG_take (i := 3) (listed' := [true, true, true, true, false, false, false, false, false, false, false]) rfl (by kernel_rfl) (fun w H => x_load Try.underlying21 rfl rfl (H.onum (.succ (.succ .zero)) (by omega) (by omega))) H rfl ?_
                      refine WG_take (i := 4) (listed' := [true, true, true, true, true, false, false, false, false, false, false]) rfl (by kernel_rfl) (fun w H => x_move (v := .slice _ _ _) rfl) H rfl ?_
                      refine WG_take (i := 5) (listed' := [true, true, true, true, true, true, false, false, false, false, false]) rfl (by kernel_rfl) (fun w H => x_move (v := .int .i64 _) rfl) H rfl ?_
                      refine WG_take (i := 6) (listed' := [true, true, true, true, true, true, true, false, false, false, false]) rfl (by kernel_rfl) (fun w H => x_binop rfl rfl (r_sub_in (i64_in (by omega) (by omega)))) H rfl ?_
                      refine WG_take (i := 7) (listed' := [true, true, true, true, true, true, true, true, false, false, false]) rfl (by kernel_rfl) (fun w H => x_indexAddr (s := 1) Try.underlying23 (by kernel_rfl) rfl rfl (by omega) (by omega) (by first | rfl | assumption | exact H.rsomen .zero (by omega) | exact H.rsomen (.succ .zero) (by omega) | exact H.rsomen (.succ (.succ .zero)) (by omega) | exact H.osomen .zero (by omega) | exact H.osomen (.succ .zero) (by omega) | exact H.osomen (.succ (.succ .zero)) (by omega)) rfl) H rfl ?_
                      first | refine WG_take (i := 8) (listed' := [true, true, true, true, true, true, true, true, true, false, false]) rfl (by kernel_rfl) (fun w H => x_load (v := .int .i32 _) Try.underlying21 rfl rfl (H.cellAt .zero rfl)) H rfl ?_ | refine WG_take (i := 8) (listed' := [true, true, true, true, true, true, true, true, true, false, false]) rfl (by kernel_rfl) (fun w H => x_load (v := .int .i32 _) Try.underlying21 rfl rfl (H.cellAt (.succ .zero) rfl)) H rfl ?_ | refine WG_take (i := 8) (listed' := [true, true, true, true, true, true, true, true, true, false, false]) rfl (by kernel_rfl) (fun w H => x_load (v := .int .i32 _) Try.underlying21 rfl rfl (H.cellAt (.succ (.succ .zero)) rfl)) H rfl ?_ | refine WG_take (i := 8) (listed' := [true, true, true, true, true, true, true, true, true, false, false]) rfl (by kernel_rfl) (fun w H => x_load (v := .int .i32 _) Try.underlying21 rfl rfl (H.cellAt (.succ (.succ (.succ .zero))) rfl)) H rfl ?_ | refine WG_take (i := 8) (listed' := [true, true, true, true, true, true, true, true, true, false, false]) rfl (by kernel_rfl) (fun w H => x_load (v := .int .i32 _) Try.underlying21 rfl rfl (H.cellAt (.succ (.succ (.succ (.succ .zero)))) rfl)) H rfl ?_ | refine WG_take (i := 8) (listed' := [true, true, true, true, true, true, true, true, true, false, false]) rfl (by kernel_rfl) (fun w H => x_load Try.underlying21 rfl rfl (H.rnum .zero (by omega) (by omega))) H rfl ?_ | refine WG_take (i := 8) (listed' := [true, true, true, true, true, true, true, true, true, false, false]) rfl (by kernel_rfl) (fun w H => x_load Try.underlying21 rfl rfl (H.rnum (.succ .zero) (by omega) (by omega))) H rfl ?_ | refine WG_take (i := 8) (listed' := [true, true, true, true, true, true, true, true, true, false, false]) rfl (by kernel_rfl) (fun w H => x_load Try.underlying21 rfl rfl (H.rnum (.succ (.succ .zero)) (by omega) (by omega))) H rfl ?_ | refine WG_take (i := 8) (listed' := [true, true, true, true, true, true, true, true, true, false, false]) rfl (by kernel_rfl) (fun w H => x_load Try.underlying21 rfl rfl (H.onum .zero (by omega) (by omega))) H rfl ?_ | refine WG_take (i := 8) (listed' := [true, true, true, true, true, true, true, true, true, false, false]) rfl (by kernel_rfl) (fun w H => x_load Try.underlying21 rfl rfl (H.onum (.succ .zero) (by omega) (by omega))) H rfl ?_ | refine WG_take (i := 8) (listed' := [true, true, true, true, true, true, true, true, true, false, false]) rfl (by kernel_rfl) (fun w H => x_load Try.underlying21 rfl rfl (H.onum (.succ (.succ .zero)) (by omega) (by omega))) H rfl ?_
                      refine WG_mid (i := 9) (listed' := [true, true, true, true, true, true, true, true, true, true, false]) rfl rfl (by kernel_rfl) rfl rfl ?_
                      refine WL_call (vs := [.int .i32 _, .int .i32 _]) Try.func23 rfl rfl rfl (less_i32 _ _ _) ?_
                      rintro _ w ⟨rfl, hf⟩
                      refine ⟨_, rfl, ?_⟩
                      replace H := H.quiet hf
                      refine WL_nil ?_
                      refine mid_mk H ?_
                      refine WG_take (i := 10) (listed' := [true, true, true, true, true, true, true, true, true, true, true]) rfl (by kernel_rfl) (fun w H => x_not rfl) H rfl ?_
                      refine WG_done (by kernel_rfl) ?_
                      refine thenE_normal ?_
                      refine WC_ifn rfl (fun h78 => ?_) (fun h78 => ?_)
                      · have hK := shiftDown_end (d := K) (j := j) (lt_no h78 (by omega) (by omega))
                        refine WC_exit ?_
                        refine thenE_exit ?_
                        refine inBlockE_other rfl ?_
                        refine thenE_exit ?_
                        refine thenE_exit ?_
                        refine inBlockE_exit ?_
                        refine thenE_normal ?_
                        first
                          | exact ⟨K, by rw [Go.Sort.fixDown, if_pos (by omega), ← hI, hK], hM, rfl, rfl, rfl, rfl, rfl, H⟩
                          | exact ⟨_, by rw [Go.Sort.fixDown, if_neg (by omega)], hM2, rfl, rfl, rfl, rfl, rfl, H⟩
                      · have hK := shiftDown_go (d := K) (j := j) (lt_yes h78 (by omega) (by omega))
                        refine WC_skip ?_
                        refine thenE_normal ?_
                        refine WC_drawT (m := 18) (listed := [false, false, false, false, false, false, false, false, false, false, false, false, false, false, false, false, false, false]) (by kernel_rfl) rfl rfl H ?_
                        intro w H
                        refine WG_take (i := 2) (listed' := [false, false, true, false, false, false, false, false, false, false, false, false, false, false, false, false, false, false]) rfl (by kernel_rfl) (fun w _ => x_move (v := .slice _ _ _) rfl) trivial rfl ?_
                        refine WG_take (i := 3) (listed' := [false, false, true, true, false, false, false, false, false, false, false, false, false, false, false, false, false, false]) rfl (by kernel_rfl) (fun w _ => x_move (v := .int .i64 _) rfl) trivial rfl ?_
                        refine WG_take (i := 4) (listed' := [false, false, true, true, true, false, false, false, false, false, false, false, false, false, false, false, false, false]) rfl (by kernel_rfl) (fun w _ => x_binop rfl rfl (r_sub_in (i64_in (by omega) (by omega)))) trivial rfl ?_
                        refine WG_true (S := fun w => St W (row A c 21 1 n (nums .i32 d.toList)).fp [row A c 21 1 n (nums .i32 K.toList)] [] w) (n := 15) rfl ?_
                        refine WG_take (i := 0) (listed' := [true, false, true, true, true, false, false, false, false, false, false, false, false, false, false, false, false, false]) rfl (by kernel_rfl) (fun w H => x_move (v := .slice _ _ _) rfl) H rfl ?_
                        refine WG_take (i := 1) (listed' := [true, true, true, true, true, false, false, false, false, false, false, false, false, false, false, false, false, false]) rfl (by kernel_rfl) (fun w H => x_move (v := .int .i64 _) rfl) H rfl ?_
                        refine WG_take (i := 5) (listed' := [true, true, true, true, true, true, false, false, false, false, false, false, false, false, false, false, false, false]) rfl (by kernel_rfl) (fun w H => x_move (v := .slice _ _ _) rfl) H rfl ?_
                        refine WG_take (i := 6) (listed' := [true, true, true, true, true, true, true, false, false, false, false, false, false, false, false, false, false, false]) rfl (by kernel_rfl) (fun w H => x_move (v := .int .i64 _) rfl) H rfl ?_
                        refine WG_take (i := 7) (listed' := [true, true, true, true, true, true, true, true, false, false, false, false, false, false, false, false, false, false]) rfl (by kernel_rfl) (fun w H => x_binop rfl rfl (r_sub_in (i64_in (by omega) (by omega)))) H rfl ?_
                        refine WG_take (i := 8) (listed' := [true, true, true, true, true, true, true, true, true, false, false, false, false, false, false, false, false, false]) rfl (by kernel_rfl) (fun w H => x_indexAddr (s := 1) Try.underlying23 (by kernel_rfl) rfl rfl (by omega) (by omega) (by first | rfl | assumption | exact H.rsomen .zero (by omega) | exact H.rsomen (.succ .zero) (by omega) | exact H.rsomen (.succ (.succ .zero)) (by omega) | exact H.osomen .zero (by omega) | exact H.osomen (.succ .zero) (by omega) | exact H.osomen (.succ (.succ .zero)) (by omega)) rfl) H rfl ?_
                        first | refine WG_take (i := 9) (listed' := [true, true, true, true, true, true, true, true, true, true, false, false, false, false, false, false, false, false]) rfl (by kernel_rfl) (fun w H => x_load (v := .int .i32 _) Try.underlying21 rfl rfl (H.cellAt .zero rfl)) H rfl ?_ | refine WG_take (i := 9) (listed' := [true, true, true, true, true, true, true, true, true, true, false, false, false, false, false, false, false, false]) rfl (by kernel_rfl) (fun w H => x_load (v := .int .i32 _) Try.underlying21 rfl rfl (H.cellAt (.succ .zero) rfl)) H rfl ?_ | refine WG_take (i := 9) (listed' := [true, true, true, true, true, true, true, true, true, true, false, false, false, false, false, false, false, false]) rfl (by kernel_rfl) (fun w H => x_load (v := .int .i32 _) Try.underlying21 rfl rfl (H.cellAt (.succ (.succ .zero)) rfl)) H rfl ?_ | refine WG_take (i := 9) (listed' := [true, true, true, true, true, true, true, true, true, true, false, false, false, false, false, false, false, false]) rfl (by kernel_rfl) (fun w H => x_load (v := .int .i32 _) Try.underlying21 rfl rfl (H.cellAt (.succ (.succ (.succ .zero))) rfl)) H rfl ?_ | refine WG_take (i := 9) (listed' := [true, true, true, true, true, true, true, true, true, true, false, false, false, false, false, false, false, false]) rfl (by kernel_rfl) (fun w H => x_load (v := .int .i32 _) Try.underlying21 rfl rfl (H.cellAt (.succ (.succ (.succ (.succ .zero)))) rfl)) H rfl ?_ | refine WG_take (i := 9) (listed' := [true, true, true, true, true, true, true, true, true, true, false, false, false, false, false, false, false, false]) rfl (by kernel_rfl) (fun w H => x_load Try.underlying21 rfl rfl (H.rnum .zero (by omega) (by omega))) H rfl ?_ | refine WG_take (i := 9) (listed' := [true, true, true, true, true, true, true, true, true, true, false, false, false, false, false, false, false, false]) rfl (by kernel_rfl) (fun w H => x_load Try.underlying21 rfl rfl (H.rnum (.succ .zero) (by omega) (by omega))) H rfl ?_ | refine WG_take (i := 9) (listed' := [true, true, true, true, true, true, true, true, true, true, false, false, false, false, false, false, false, false]) rfl (by kernel_rfl) (fun w H => x_load Try.underlying21 rfl rfl (H.rnum (.succ (.succ .zero)) (by omega) (by omega))) H rfl ?_ | refine WG_take (i := 9) (listed' := [true, true, true, true, true, true, true, true, true, true, false, false, false, false, false, false, false, false]) rfl (by kernel_rfl) (fun w H => x_load Try.underlying21 rfl rfl (H.onum .zero (by omega) (by omega))) H rfl ?_ | refine WG_take (i := 9) (listed' := [true, true, true, true, true, true, true, true, true, true, false, false, false, false, false, false, false, false]) rfl (by kernel_rfl) (fun w H => x_load Try.underlying21 rfl rfl (H.onum (.succ .zero) (by omega) (by omega))) H rfl ?_ | refine WG_take (i := 9) (listed' := [true, true, true, true, true, true, true, true, true, true, false, false, false, false, false, false, false, false]) rfl (by kernel_rfl) (fun w H => x_load Try.underlying21 rfl rfl (H.onum (.succ (.succ .zero)) (by omega) (by omega))) H rfl ?_
                        refine WG_take (i := 10) (listed' := [true, true, true, true, true, true, true, true, true, true, true, false, false, false, false, false, false, false]) rfl (by kernel_rfl) (fun w H => x_move (v := .slice _ _ _) rfl) H rfl ?_
                        refine WG_take (i := 11) (listed' := [true, true, true, true, true, true, true, true, true, true, true, true, false, false, false, false, false, false]) rfl (by kernel_rfl) (fun w H => x_move (v := .int .i64 _) rfl) H rfl ?_
                        refine WG_take (i := 12) (listed' := [true, true, true, true, true, true, true, true, true, true, true, true, true, false, false, false, false, false]) rfl (by kernel_rfl) (fun w H => x_indexAddr (s := 1) Try.underlying23 (by kernel_rfl) rfl rfl (by omega) (by omega) (by first | rfl | assumption | exact H.rsomen .zero (by omega) | exact H.rsomen (.succ .zero) (by omega) | exact H.rsomen (.succ (.succ .zero)) (by omega) | exact H.osomen .zero (by omega) | exact H.osomen (.succ .zero) (by omega) | exact H.osomen (.succ (.succ .zero)) (by omega)) rfl) H rfl ?_
                        first | refine WG_take (i := 13) (listed' := [true, true, true, true, true, true, true, true, true, true, true, true, true, true, false, false, false, false]) rfl (by kernel_rfl) (fun w H => x_load (v := .int .i32 _) Try.underlying21 rfl rfl (H.cellAt .zero rfl)) H rfl ?_ | refine WG_take (i := 13) (listed' := [true, true, true, true, true, true, true, true, true, true, true, true, true, true, false, false, false, false]) rfl (by kernel_rfl) (fun w H => x_load (v := .int .i32 _) Try.underlying21 rfl rfl (H.cellAt (.succ .zero) rfl)) H rfl ?_ | refine WG_take (i := 13) (listed' := [true, true, true, true, true, true, true, true, true, true, true, true, true, true, false, false, false, false]) rfl (by kernel_rfl) (fun w H => x_load (v := .int .i32 _) Try.underlying21 rfl rfl (H.cellAt (.succ (.succ .zero)) rfl)) H rfl ?_ | refine WG_take (i := 13) (listed' := [true, true, true, true, true, true, true, true, true, true, true, true, true, true, false, false, false, false]) rfl (by kernel_rfl) (fun w H => x_load (v := .int .i32 _) Try.underlying21 rfl rfl (H.cellAt (.succ (.succ (.succ .zero))) rfl)) H rfl ?_ | refine WG_take (i := 13) (listed' := [true, true, true, true, true, true, true, true, true, true, true, true, true, true, false, false, false, false]) rfl (by kernel_rfl) (fun w H => x_load (v := .int .i32 _) Try.underlying21 rfl rfl (H.cellAt (.succ (.succ (.succ (.succ .zero)))) rfl)) H rfl ?_ | refine WG_take (i := 13) (listed' := [true, true, true, true, true, true, true, true, true, true, true, true, true, true, false, false, false, false]) rfl (by kernel_rfl) (fun w H => x_load Try.underlying21 rfl rfl (H.rnum .zero (by omega) (by omega))) H rfl ?_ | refine WG_take (i := 13) (listed' := [true, true, true, true, true, true, true, true, true, true, true, true, true, true, false, false, false, false]) rfl (by kernel_rfl) (fun w H => x_load Try.underlying21 rfl rfl (H.rnum (.succ .zero) (by omega) (by omega))) H rfl ?_ | refine WG_take (i := 13) (listed' := [true, true, true, true, true, true, true, true, true, true, true, true, true, true, false, false, false, false]) rfl (by kernel_rfl) (fun w H => x_load Try.underlying21 rfl rfl (H.rnum (.succ (.succ .zero)) (by omega) (by omega))) H rfl ?_ | refine WG_take (i := 13) (listed' := [true, true, true, true, true, true, true, true, true, true, true, true, true, true, false, false, false, false]) rfl (by kernel_rfl) (fun w H => x_load Try.underlying21 rfl rfl (H.onum .zero (by omega) (by omega))) H rfl ?_ | refine WG_take (i := 13) (listed' := [true, true, true, true, true, true, true, true, true, true, true, true, true, true, false, false, false, false]) rfl (by kernel_rfl) (fun w H => x_load Try.underlying21 rfl rfl (H.onum (.succ .zero) (by omega) (by omega))) H rfl ?_ | refine WG_take (i := 13) (listed' := [true, true, true, true, true, true, true, true, true, true, true, true, true, true, false, false, false, false]) rfl (by kernel_rfl) (fun w H => x_load Try.underlying21 rfl rfl (H.onum (.succ (.succ .zero)) (by omega) (by omega))) H rfl ?_
                        refine WG_take (i := 14) (listed' := [true, true, true, true, true, true, true, true, true, true, true, true, true, true, true, false, false, false]) rfl (by kernel_rfl) (fun w H => x_indexAddr (s := 1) Try.underlying23 (by kernel_rfl) rfl rfl (by omega) (by omega) (by first | rfl | assumption | exact H.rsomen .zero (by omega) | exact H.rsomen (.succ .zero) (by omega) | exact H.rsomen (.succ (.succ .zero)) (by omega) | exact H.osomen .zero (by omega) | exact H.osomen (.succ .zero) (by omega) | exact H.osomen (.succ (.succ .zero)) (by omega)) rfl) H rfl ?_
                        refine WG_next (fun w => St W (row A c 21 1 n (nums .i32 d.toList)).fp [row A c 21 1 n (nums .i32 (K.setIfInBounds (j + 1) K[j]!).toList)] [] w) 17 (listed' := [true, true, true, true, true, true, true, true, true, true, true, true, true, true, true, true, false, false]) rfl rfl (by kernel_rfl) rfl ?_
                        refine WL_storeR (v := .int .i32 _) (o := (j + 1)) (n := n) (xs := nums .i32 K.toList) (xs' := nums .i32 (K.setIfInBounds (j + 1) K[j]!).toList) Try.underlying21 rfl rfl rfl rfl (by kernel_rfl) (by omega) H .zero (by rw [nums_length]; omega) (nums_setA _ _ _ (nth_at (by omega))) ?_
                        clear H; intro w H
                        refine WL_nil ?_
                        refine nx_mk ?_
                        refine WG_take (i := 16) (listed' := [true, true, true, true, true, true, true, true, true, true, true, true, true, true, true, true, true, false]) rfl (by kernel_rfl) (fun w H => x_indexAddr (s := 1) Try.underlying23 (by kernel_rfl) rfl rfl (by omega) (by omega) (H.osomen .zero (by rw [len_setA]; omega)) rfl) H rfl ?_
                        refine WG_fin (listed' := [true, true, true, true, true, true, true, true, true, true, true, true, true, true, true, true, true, true]) rfl rfl (by kernel_rfl) rfl (by kernel_rfl) ?_
                        refine WL_storeR (v := .int .i32 _) (o := j) (n := n) (xs := nums .i32 (K.setIfInBounds (j + 1) K[j]!).toList) (xs' := nums .i32 (Go.Sort.swp K (j + 1) j).toList) Try.underlying21 rfl rfl rfl rfl (by kernel_rfl) (by omega) H .zero (by rw [nums_length, len_setA]; omega) (nums_setA _ _ _ (nth_at (by omega))) ?_
                        clear H; intro w H
                        have hM2 : (Go.Sort.swp K (j + 1) j).toList.length = n := by rw [len_swp]; exact hM
                        refine WL_nil ?_
                        refine fin_mk ?_
                        refine inBlockE_normal ?_
                        refine thenE_normal ?_
                        refine WC_region ?_
                        refine WL_x (x_move (v := .int .i64 _) rfl) ?_
                        refine WL_x (x_binop rfl rfl (r_sub_in (i64_in (by omega) (by omega)))) ?_
                        refine WL_x (x_assign (v := .int .i64 _) rfl) ?_
                        refine WL_nil ?_
                        refine thenE_normal ?_
                        exact ⟨(j, Go.Sort.swp K (j + 1) j), ⟨by simp only; omega, hM2, by simp only; rw [← hK]; exact hI, (congrArg (Value.int .i64) (by first | omega | rfl | (simp only; omega))), rfl, rfl, rfl, rfl, rfl, H⟩, by simp only; omega⟩
                    · obtain rfl : j = 0 := by omega
                      have hK : Go.Sort.shiftDown Go.Sort.ltInt 0 K = K := rfl
                      refine WC_exit ?_
                      refine thenE_exit ?_
                      refine thenE_exit ?_
                      refine inBlockE_exit ?_
                      refine thenE_normal ?_
                      first
                        | exact ⟨K, by rw [Go.Sort.fixDown, if_pos (by omega), ← hI, hK], hM, rfl, rfl, rfl, rfl, rfl, H⟩
                        | exact ⟨_, by rw [Go.Sort.fixDown, if_neg (by omega)], hM2, rfl, rfl, rfl, rfl, rfl, H⟩
                · refine WC_skip ?_
                  refine thenE_normal ?_
                  first
                    | exact ⟨K, by rw [Go.Sort.fixDown, if_pos (by omega), ← hI, hK], hM, rfl, rfl, rfl, rfl, rfl, H⟩
                    | exact ⟨_, by rw [Go.Sort.fixDown, if_neg (by omega)], hM2, rfl, rfl, rfl, rfl, rfl, H⟩
              · clear H
                rintro M3 f w ⟨hE3, hM3, h8, h7, h0, h1, h2, H⟩
                rw [← upd_self h8, ← upd_self h7, ← upd_self h0, ← upd_self h1, ← upd_self h2]
                refine WC_seq ?_
                refine WC_region ?_
                refine WL_x (x_move (v := .int .i64 _) rfl) ?_
                refine WL_x (x_move (v := .int .i64 _) rfl) ?_
                refine WL_x (x_binop rfl rfl (r_sub_in (i64_in (by omega) (by omega)))) ?_
                refine WL_x (x_binop rfl rfl (r_geq _ _ _ _)) ?_
                refine WL_nil ?_
                refine thenE_normal ?_
                first | refine WC_ifd rfl (fun h98 => ?_) (fun h98 => ?_) | refine WC_ifn rfl (fun h98 => ?_) (fun h98 => ?_) | refine WC_if rfl (fun h98 => ?_) (fun h98 => ?_)
                · refine WC_seq ?_
                  refine WC_region ?_
                  refine WL_x (x_move (v := .int .i64 _) rfl) ?_
                  refine WL_x (x_binop rfl rfl (r_add_in (i64_in (by omega) (by omega)))) ?_
                  refine WL_x (x_assign (v := .int .i64 _) rfl) ?_
                  refine WL_nil ?_
                  refine thenE_normal ?_
                  refine WC_block ?_
                  refine WC_while (fun (s : Nat × Array Int) f w' => i + 1 ≤ s.1 ∧ s.1 ≤ b ∧ s.2.toList.length = n ∧ Go.Sort.shiftUp Go.Sort.ltInt b s.1 s.2 = Go.Sort.shiftUp Go.Sort.ltInt b (i + 1) M3 ∧ f 10 = .int .i64 s.1 ∧ f 8 = .int .i64 (5 - ((st + 1 : Nat) : Int)) ∧ f 7 = .int .i64 i ∧ f 0 = .slice A n c ∧ f 1 = .int .i64 a ∧ f 2 = .int .i64 b ∧ St W (row A c 21 1 n (nums .i32 d.toList)).fp [row A c 21 1 n (nums .i32 s.2.toList)] [] w') (fun s => b - s.1) (s0 := (i + 1, M3)) ?_ ?_
                  · exact ⟨Nat.le_refl _, by simp only; omega, hM3, rfl, (congrArg (Value.int .i64) (by first | omega | rfl | (simp only; omega))), rfl, rfl, rfl, rfl, rfl, H⟩
                  · clear H hM hM2
                    rintro ⟨j, K⟩ f w ⟨hj, hj2, hM, hI, h10, h8, h7, h0, h1, h2, H⟩
                    simp only at hj hj2 hM hI h10 h8 h7 h0 h1 h2 H
                    rw [← upd_self h10, ← upd_self h8, ← upd_self h7, ← upd_self h0, ← upd_self h1, ← upd_self h2]
                    refine WC_seq ?_
                    refine WC_seq ?_
                    refine WC_region ?_
                    refine WL_x (x_move (v := .int .i64 _) rfl) ?_
                    refine WL_x (x_move (v := .int .i64 _) rfl) ?_
                    refine WL_x (x_binop rfl rfl (r_lss _ _ _ _)) ?_
                    refine WL_nil ?_
                    refine thenE_normal ?_
                    refine WC_ifd rfl (fun h103 => ?_) (fun h103 => ?_)
                    · refine WC_skip ?_
                      refine thenE_normal ?_
                      refine WC_seq ?_
                      refine WC_block ?_
                      refine WC_seq ?_
                      refine WC_seq ?_
                      refine WC_drawH (m := 11) (listed := [false, false, false, false, false, false, false, false, false, false, false]) 11 (by kernel_rfl) rfl rfl H ?_
                      intro w H
                      refine WG_take (i := 0) (listed' := [true, false, false, false, false, false, false, false, false, false, false]) rfl (by kernel_rfl) (fun w H => x_move (v := .slice _ _ _) rfl) H rfl ?_
                      refine WG_take (i := 1) (listed' := [true, true, false, false, false, false, false, false, false, false, false]) rfl (by kernel_rfl) (fun w H => x_move (v := .int .i64 _) rfl) H rfl ?_
                      refine WG_take (i := 2) (listed' := [true, true, true, false, false, false, false, false, false, false, false]) rfl (by kernel_rfl) (fun w H => x_indexAddr (s := 1) Try.underlying23 (by kernel_rfl) rfl rfl (by omega) (by omega) (by first | rfl | assumption | exact H.rsomen .zero (by omega) | exact H.rsomen (.succ .zero) (by omega) | exact H.rsomen (.succ (.succ .zero)) (by omega) | exact H.osomen .zero (by omega) | exact H.osomen (.succ .zero) (by omega) | exact H.osomen (.succ (.succ .zero)) (by omega)) rfl) H rfl ?_
                      first | refine WG_take (i := 3) (listed' := [true, true, true, true, false, false, false, false, false, false, false]) rfl (by kernel_rfl) (fun w H => x_load (v := .int .i32 _) Try.underlying21 rfl rfl (H.cellAt .zero rfl)) H rfl ?_ | refine WG_take (i := 3) (listed' := [true, true, true, true, false, false, false, false, false, false, false]) rfl (by kernel_rfl) (fun w H => x_load (v := .int .i32 _) Try.underlying21 rfl rfl (H.cellAt (.succ .zero) rfl)) H rfl ?_ | refine WG_take (i := 3) (listed' := [true, true, true, true, false, false, false, false, false, false, false]) rfl (by kernel_rfl) (fun w H => x_load (v := .int .i32 _) Try.underlying21 rfl rfl (H.cellAt (.succ (.succ .zero)) rfl)) H rfl ?_ | refine WG_take (i := 3) (listed' := [true, true, true, true, false, false, false, false, false, false, false]) rfl (by kernel_rfl) (fun w H => x_load (v := .int .i32 _) Try.underlying21 rfl rfl (H.cellAt (.succ (.succ (.succ .zero))) rfl)) H rfl ?_ | refine WG_take (i := 3) (listed' := [true, true, true, true, false, false, false, false, false, false, false]) rfl (by kernel_rfl) (fun w H => x_load (v := .int .i32 _) Try.underlying21 rfl rfl (H.cellAt (.succ (.succ (.succ (.succ .zero)))) rfl)) H rfl ?_ | refine WG_take (i := 3) (listed' := [true, true, true, true, false, false, false, false, false, false, false]) rfl (by kernel_rfl) (fun w H => x_load Try.underlying21 rfl rfl (H.rnum .zero (by omega) (by omega))) H rfl ?_ | refine WG_take (i := 3) (listed' := [true, true, true, true, false, false, false, false, false, false, false]) rfl (by kernel_rfl) (fun w H => x_load Try.underlying21 rfl rfl (H.rnum (.succ .zero) (by omega) (by omega))) H rfl ?_ | refine WG_take (i := 3) (listed' := [true, true, true, true, false, false, false, false, false, false, false]) rfl (by kernel_rfl) (fun w H => x_load Try.underlying21 rfl rfl (H.rnum (.succ (.succ .zero)) (by omega) (by omega))) H rfl ?_ | refine WG_take (i := 3) (listed' := [true, true, true, true, false, false, false, false, false, false, false]) rfl (by kernel_rfl) (fun w H => x_load Try.underlying21 rfl rfl (H.onum .zero (by omega) (by omega))) H rfl ?_ | refine WG_take (i := 3) (listed' := [true, true, true, true, false, false, false, false, false, false, false]) rfl (by kernel_rfl) (fun w H => x_load Try.underlying21 rfl rfl (H.onum (.succ .zero) (by omega) (by omega))) H rfl ?_ | refine WG_take (i := 3) (listed' := [true, true, true, true, false, false, false, false, false, false, false]) rfl (by kernel_rfl) (fun w H => x_load Try.underlying21 rfl rfl (H.onum (.succ (.succ .zero)) (by omega) (by omega))) H rfl ?_
                      refine WG_take (i := 4) (listed' := [true, true, true, true, true, false, false, false, false, false, false]) rfl (by kernel_rfl) (fun w H => x_move (v := .slice _ _ _) rfl) H rfl ?_
                      refine WG_take (i := 5) (listed' := [true, true, true, true, true, true, false, false, false, false, false]) rfl (by kernel_rfl) (fun w H => x_move (v := .int .i64 _) rfl) H rfl ?_
                      refine WG_take (i := 6) (listed' := [true, true, true, true, true, true, true, false, false, false, false]) rfl (by kernel_rfl) (fun w H => x_binop rfl rfl (r_sub_in (i64_in (by omega) (by omega)))) H rfl ?_
                      refine WG_take (i := 7) (listed' := [true, true, true, true, true, true, true, true, false, false, false]) rfl (by kernel_rfl) (fun w H => x_indexAddr (s := 1) Try.underlying23 (by kernel_rfl) rfl rfl (by omega) (by omega) (by first | rfl | assumption | exact H.rsomen .zero (by omega) | exact H.rsomen (.succ .zero) (by omega) | exact H.rsomen (.succ (.succ .zero)) (by omega) | exact H.osomen .zero (by omega) | exact H.osomen (.succ .zero) (by omega) | exact H.osomen (.succ (.succ .zero)) (by omega)) rfl) H rfl ?_
                      first | refine WG_take (i := 8) (listed' := [true, true, true, true, true, true, true, true, true, false, false]) rfl (by kernel_rfl) (fun w H => x_load (v := .int .i32 _) Try.underlying21 rfl rfl (H.cellAt .zero rfl)) H rfl ?_ | refine WG_take (i := 8) (listed' := [true, true, true, true, true, true, true, true, true, false, false]) rfl (by kernel_rfl) (fun w H => x_load (v := .int .i32 _) Try.underlying21 rfl rfl (H.cellAt (.succ .zero) rfl)) H rfl ?_ | refine WG_take (i := 8) (listed' := [true, true, true, true, true, true, true, true, true, false, false]) rfl (by kernel_rfl) (fun w H => x_load (v := .int .i32 _) Try.underlying21 rfl rfl (H.cellAt (.succ (.succ .zero)) rfl)) H rfl ?_ | refine WG_take (i := 8) (listed' := [true, true, true, true, true, true, true, true, true, false, false]) rfl (by kernel_rfl) (fun w H => x_load (v := .int .i32 _) Try.underlying21 rfl rfl (H.cellAt (.succ (.succ (.succ .zero))) rfl)) H rfl ?_ | refine WG_take (i := 8) (listed' := [true, true, true, true, true, true, true, true, true, false, false]) rfl (by kernel_rfl) (fun w H => x_load (v := .int .i32 _) Try.underlying21 rfl rfl (H.cellAt (.succ (.succ (.succ (.succ .zero)))) rfl)) H rfl ?_ | refine WG_take (i := 8) (listed' := [true, true, true, true, true, true, true, true, true, false, false]) rfl (by kernel_rfl) (fun w H => x_load Try.underlying21 rfl rfl (H.rnum .zero (by omega) (by omega))) H rfl ?_ | refine WG_take (i := 8) (listed' := [true, true, true, true, true, true, true, true, true, false, false]) rfl (by kernel_rfl) (fun w H => x_load Try.underlying21 rfl rfl (H.rnum (.succ .zero) (by omega) (by omega))) H rfl ?_ | refine WG_take (i := 8) (listed' := [true, true, true, true, true, true, true, true, true, false, false]) rfl (by kernel_rfl) (fun w H => x_load Try.underlying21 rfl rfl (H.rnum (.succ (.succ .zero)) (by omega) (by omega))) H rfl ?_ | refine WG_take (i := 8) (listed' := [true, true, true, true, true, true, true, true, true, false, false]) rfl (by kernel_rfl) (fun w H => x_load Try.underlying21 rfl rfl (H.onum .zero (by omega) (by omega))) H rfl ?_ | refine WG_take (i := 8) (listed' := [true, true, true, true, true, true, true, true, true, false, false]) rfl (by kernel_rfl) (fun w H => x_load Try.underlying21 rfl rfl (H.onum (.succ .zero) (by omega) (by omega))) H rfl ?_ | refine WG_take (i := 8) (listed' := [true, true, true, true, true, true, true, true, true, false, false]) rfl (by kernel_rfl) (fun w H => x_load Try.underlying21 rfl rfl (H.onum (.succ (.succ .zero)) (by omega) (by omega))) H rfl ?_
                      refine WG_mid (i := 9) (listed' := [true, true, true, true, true, true, true, true, true, true, false]) rfl rfl (by kernel_rfl) rfl rfl ?_
                      refine WL_call (vs := [.int .i32 _, .int .i32 _]) Try.func23 rfl rfl rfl (less_i32 _ _ _) ?_
                      rintro _ w ⟨rfl, hf⟩
                      refine ⟨_, rfl, ?_⟩
                      replace H := H.quiet hf
                      refine WL_nil ?_
                      refine mid_mk H ?_
                      refine WG_take (i := 10) (listed' := [true, true, true, true, true, true, true, true, true, true, true]) rfl (by kernel_rfl) (fun w H => x_not rfl) H rfl ?_
                      refine WG_done (by kernel_rfl) ?_
                      refine thenE_normal ?_
                      refine WC_ifn rfl (fun h116 => ?_) (fun h116 => ?_)
                      · have hK := shiftUp_end (d := K) (b := b) (j := j) (.inr (lt_no h116 (by omega) (by omega)))
                        refine WC_exit ?_
                        refine thenE_exit ?_
                        refine inBlockE_other rfl ?_
                        refine thenE_exit ?_
                        refine thenE_exit ?_
                        refine inBlockE_exit ?_
                        refine inBlockE_normal ?_
                        refine thenE_normal ?_
                        first
                          | exact ⟨(i, K), by simp only; rw [pins_go hi (by omega) (by omega), ← hE3, Go.Sort.fixUp, if_pos (by omega), ← hI, hK], by simp only; omega, by simp only; omega, hM, rfl, rfl, rfl, rfl, rfl, H⟩
                          | exact ⟨(i, M3), by simp only; rw [pins_go hi (by omega) (by omega), ← hE3, Go.Sort.fixUp, if_neg (by omega)], by simp only; omega, by simp only; omega, hM3, rfl, rfl, rfl, rfl, rfl, H⟩
                      · have hK := shiftUp_go (d := K) (b := b) (j := j) (by omega) (lt_yes h116 (by omega) (by omega))
                        refine WC_skip ?_
                        refine thenE_normal ?_
                        refine WC_drawT (m := 18) (listed := [false, false, false, false, false, false, false, false, false, false, false, false, false, false, false, false, false, false]) (by kernel_rfl) rfl rfl H ?_
                        intro w H
                        refine WG_take (i := 2) (listed' := [false, false, true, false, false, false, false, false, false, false, false, false, false, false, false, false, false, false]) rfl (by kernel_rfl) (fun w _ => x_move (v := .slice _ _ _) rfl) trivial rfl ?_
                        refine WG_take (i := 3) (listed' := [false, false, true, true, false, false, false, false, false, false, false, false, false, false, false, false, false, false]) rfl (by kernel_rfl) (fun w _ => x_move (v := .int .i64 _) rfl) trivial rfl ?_
                        refine WG_take (i := 4) (listed' := [false, false, true, true, true, false, false, false, false, false, false, false, false, false, false, false, false, false]) rfl (by kernel_rfl) (fun w _ => x_binop rfl rfl (r_sub_in (i64_in (by omega) (by omega)))) trivial rfl ?_
                        refine WG_true (S := fun w => St W (row A c 21 1 n (nums .i32 d.toList)).fp [row A c 21 1 n (nums .i32 K.toList)] [] w) (n := 15) rfl ?_
                        refine WG_take (i := 0) (listed' := [true, false, true, true, true, false, false, false, false, false, false, false, false, false, false, false, false, false]) rfl (by kernel_rfl) (fun w H => x_move (v := .slice _ _ _) rfl) H rfl ?_
                        refine WG_take (i := 1) (listed' := [true, true, true, true, true, false, false, false, false, false, false, false, false, false, false, false, false, false]) rfl (by kernel_rfl) (fun w H => x_move (v := .int .i64 _) rfl) H rfl ?_
                        refine WG_take (i := 5) (listed' := [true, true, true, true, true, true, false, false, false, false, false, false, false, false, false, false, false, false]) rfl (by kernel_rfl) (fun w H => x_move (v := .slice _ _ _) rfl) H rfl ?_
                        refine WG_take (i := 6) (listed' := [true, true, true, true, true, true, true, false, false, false, false, false, false, false, false, false, false, false]) rfl (by kernel_rfl) (fun w H => x_move (v := .int .i64 _) rfl) H rfl ?_
                        refine WG_take (i := 7) (listed' := [true, true, true, true, true, true, true, true, false, false, false, false, false, false, false, false, false, false]) rfl (by kernel_rfl) (fun w H => x_binop rfl rfl (r_sub_in (i64_in (by omega) (by omega)))) H rfl ?_
                        refine WG_take (i := 8) (listed' := [true, true, true, true, true, true, true, true, true, false, false, false, false, false, false, false, false, false]) rfl (by kernel_rfl) (fun w H => x_indexAddr (s := 1) Try.underlying23 (by kernel_rfl) rfl rfl (by omega) (by omega) (by first | rfl | assumption | exact H.rsomen .zero (by omega) | exact H.rsomen (.succ .zero) (by omega) | exact H.rsomen (.succ (.succ .zero)) (by omega) | exact H.osomen .zero (by omega) | exact H.osomen (.succ .zero) (by omega) | exact H.osomen (.succ (.succ .zero)) (by omega)) rfl) H rfl ?_
                        first | refine WG_take (i := 9) (listed' := [true, true, true, true, true, true, true, true, true, true, false, false, false, false, false, false, false, false]) rfl (by kernel_rfl) (fun w H => x_load (v := .int .i32 _) Try.underlying21 rfl rfl (H.cellAt .zero rfl)) H rfl ?_ | refine WG_take (i := 9) (listed' := [true, true, true, true, true, true, true, true, true, true, false, false, false, false, false, false, false, false]) rfl (by kernel_rfl) (fun w H => x_load (v := .int .i32 _) Try.underlying21 rfl rfl (H.cellAt (.succ .zero) rfl)) H rfl ?_ | refine WG_take (i := 9) (listed' := [true, true, true, true, true, true, true, true, true, true, false, false, false, false, false, false, false, false]) rfl (by kernel_rfl) (fun w H => x_load (v := .int .i32 _) Try.underlying21 rfl rfl (H.cellAt (.succ (.succ .zero)) rfl)) H rfl ?_ | refine WG_take (i := 9) (listed' := [true, true, true, true, true, true, true, true, true, true, false, false, false, false, false, false, false, false]) rfl (by kernel_rfl) (fun w H => x_load (v := .int .i32 _) Try.underlying21 rfl rfl (H.cellAt (.succ (.succ (.succ .zero))) rfl)) H rfl ?_ | refine WG_take (i := 9) (listed' := [true, true, true, true, true, true, true, true, true, true, false, false, false, false, false, false, false, false]) rfl (by kernel_rfl) (fun w H => x_load (v := .int .i32 _) Try.underlying21 rfl rfl (H.cellAt (.succ (.succ (.succ (.succ .zero)))) rfl)) H rfl ?_ | refine WG_take (i := 9) (listed' := [true, true, true, true, true, true, true, true, true, true, false, false, false, false, false, false, false, false]) rfl (by kernel_rfl) (fun w H => x_load Try.underlying21 rfl rfl (H.rnum .zero (by omega) (by omega))) H rfl ?_ | refine WG_take (i := 9) (listed' := [true, true, true, true, true, true, true, true, true, true, false, false, false, false, false, false, false, false]) rfl (by kernel_rfl) (fun w H => x_load Try.underlying21 rfl rfl (H.rnum (.succ .zero) (by omega) (by omega))) H rfl ?_ | refine WG_take (i := 9) (listed' := [true, true, true, true, true, true, true, true, true, true, false, false, false, false, false, false, false, false]) rfl (by kernel_rfl) (fun w H => x_load Try.underlying21 rfl rfl (H.rnum (.succ (.succ .zero)) (by omega) (by omega))) H rfl ?_ | refine WG_take (i := 9) (listed' := [true, true, true, true, true, true, true, true, true, true, false, false, false, false, false, false, false, false]) rfl (by kernel_rfl) (fun w H => x_load Try.underlying21 rfl rfl (H.onum .zero (by omega) (by omega))) H rfl ?_ | refine WG_take (i := 9) (listed' := [true, true, true, true, true, true, true, true, true, true, false, false, false, false, false, false, false, false]) rfl (by kernel_rfl) (fun w H => x_load Try.underlying21 rfl rfl (H.onum (.succ .zero) (by omega) (by omega))) H rfl ?_ | refine WG_take (i := 9) (listed' := [true, true, true, true, true, true, true, true, true, true, false, false, false, false, false, false, false, false]) rfl (by kernel_rfl) (fun w H => x_load Try.underlying21 rfl rfl (H.onum (.succ (.succ .zero)) (by omega) (by omega))) H rfl ?_
                        refine WG_take (i := 10) (listed' := [true, true, true, true, true, true, true, true, true, true, true, false, false, false, false, false, false, false]) rfl (by kernel_rfl) (fun w H => x_move (v := .slice _ _ _) rfl) H rfl ?_
                        refine WG_take (i := 11) (listed' := [true, true, true, true, true, true, true, true, true, true, true, true, false, false, false, false, false, false]) rfl (by kernel_rfl) (fun w H => x_move (v := .int .i64 _) rfl) H rfl ?_
                        refine WG_take (i := 12) (listed' := [true, true, true, true, true, true, true, true, true, true, true, true, true, false, false, false, false, false]) rfl (by kernel_rfl) (fun w H => x_indexAddr (s := 1) Try.underlying23 (by kernel_rfl) rfl rfl (by omega) (by omega) (by first | rfl | assumption | exact H.rsomen .zero (by omega) | exact H.rsomen (.succ .zero) (by omega) | exact H.rsomen (.succ (.succ .zero)) (by omega) | exact H.osomen .zero (by omega) | exact H.osomen (.succ .zero) (by omega) | exact H.osomen (.succ (.succ .zero)) (by omega)) rfl) H rfl ?_
                        first | refine WG_take (i := 13) (listed' := [true, true, true, true, true, true, true, true, true, true, true, true, true, true, false, false, false, false]) rfl (by kernel_rfl) (fun w H => x_load (v := .int .i32 _) Try.underlying21 rfl rfl (H.cellAt .zero rfl)) H rfl ?_ | refine WG_take (i := 13) (listed' := [true, true, true, true, true, true, true, true, true, true, true, true, true, true, false, false, false, false]) rfl (by kernel_rfl) (fun w H => x_load (v := .int .i32 _) Try.underlying21 rfl rfl (H.cellAt (.succ .zero) rfl)) H rfl ?_ | refine WG_take (i := 13) (listed' := [true, true, true, true, true, true, true, true, true, true, true, true, true, true, false, false, false, false]) rfl (by kernel_rfl) (fun w H => x_load (v := .int .i32 _) Try.underlying21 rfl rfl (H.cellAt (.succ (.succ .zero)) rfl)) H rfl ?_ | refine WG_take (i := 13) (listed' := [true, true, true, true, true, true, true, true, true, true, true, true, true, true, false, false, false, false]) rfl (by kernel_rfl) (fun w H => x_load (v := .int .i32 _) Try.underlying21 rfl rfl (H.cellAt (.succ (.succ (.succ .zero))) rfl)) H rfl ?_ | refine WG_take (i := 13) (listed' := [true, true, true, true, true, true, true, true, true, true, true, true, true, true, false, false, false, false]) rfl (by kernel_rfl) (fun w H => x_load (v := .int .i32 _) Try.underlying21 rfl rfl (H.cellAt (.succ (.succ (.succ (.succ .zero)))) rfl)) H rfl ?_ | refine WG_take (i := 13) (listed' := [true, true, true, true, true, true, true, true, true, true, true, true, true, true, false, false, false, false]) rfl (by kernel_rfl) (fun w H => x_load Try.underlying21 rfl rfl (H.rnum .zero (by omega) (by omega))) H rfl ?_ | refine WG_take (i := 13) (listed' := [true, true, true, true, true, true, true, true, true, true, true, true, true, true, false, false, false, false]) rfl (by kernel_rfl) (fun w H => x_load Try.underlying21 rfl rfl (H.rnum (.succ .zero) (by omega) (by omega))) H rfl ?_ | refine WG_take (i := 13) (listed' := [true, true, true, true, true, true, true, true, true, true, true, true, true, true, false, false, false, false]) rfl (by kernel_rfl) (fun w H => x_load Try.underlying21 rfl rfl (H.rnum (.succ (.succ .zero)) (by omega) (by omega))) H rfl ?_ | refine WG_take (i := 13) (listed' := [true, true, true, true, true, true, true, true, true, true, true, true, true, true, false, false, false, false]) rfl (by kernel_rfl) (fun w H => x_load Try.underlying21 rfl rfl (H.onum .zero (by omega) (by omega))) H rfl ?_ | refine WG_take (i := 13) (listed' := [true, true, true, true, true, true, true, true, true, true, true, true, true, true, false, false, false, false]) rfl (by kernel_rfl) (fun w H => x_load Try.underlying21 rfl rfl (H.onum (.succ .zero) (by omega) (by omega))) H rfl ?_ | refine WG_take (i := 13) (listed' := [true, true, true, true, true, true, true, true, true, true, true, true, true, true, false, false, false, false]) rfl (by kernel_rfl) (fun w H => x_load Try.underlying21 rfl rfl (H.onum (.succ (.succ .zero)) (by omega) (by omega))) H rfl ?_
                        refine WG_take (i := 14) (listed' := [true, true, true, true, true, true, true, true, true, true, true, true, true, true, true, false, false, false]) rfl (by kernel_rfl) (fun w H => x_indexAddr (s := 1) Try.underlying23 (by kernel_rfl) rfl rfl (by omega) (by omega) (by first | rfl | assumption | exact H.rsomen .zero (by omega) | exact H.rsomen (.succ .zero) (by omega) | exact H.rsomen (.succ (.succ .zero)) (by omega) | exact H.osomen .zero (by omega) | exact H.osomen (.succ .zero) (by omega) | exact H.osomen (.succ (.succ .zero)) (by omega)) rfl) H rfl ?_
                        refine WG_next (fun w => St W (row A c 21 1 n (nums .i32 d.toList)).fp [row A c 21 1 n (nums .i32 (K.setIfInBounds j K[(j - 1)]!).toList)] [] w) 17 (listed' := [true, true, true, true, true, true, true, true, true, true, true, true, true, true, true, true, false, false]) rfl rfl (by kernel_rfl) rfl ?_
                        refine WL_storeR (v := .int .i32 _) (o := j) (n := n) (xs := nums .i32 K.toList) (xs' := nums .i32 (K.setIfInBounds j K[(j - 1)]!).toList) Try.underlying21 rfl rfl rfl rfl (by kernel_rfl) (by omega) H .zero (by rw [nums_length]; omega) (nums_setA _ _ _ (nth_at (by omega))) ?_
                        clear H; intro w H
                        refine WL_nil ?_
                        refine nx_mk ?_
                        refine WG_take (i := 16) (listed' := [true, true, true, true, true, true, true, true, true, true, true, true, true, true, true, true, true, false]) rfl (by kernel_rfl) (fun w H => x_indexAddr (s := 1) Try.underlying23 (by kernel_rfl) rfl rfl (by omega) (by omega) (H.osomen .zero (by rw [len_setA]; omega)) rfl) H rfl ?_
                        refine WG_fin (listed' := [true, true, true, true, true, true, true, true, true, true, true, true, true, true, true, true, true, true]) rfl rfl (by kernel_rfl) rfl (by kernel_rfl) ?_
                        refine WL_storeR (v := .int .i32 _) (o := (j - 1)) (n := n) (xs := nums .i32 (K.setIfInBounds j K[(j - 1)]!).toList) (xs' := nums .i32 (Go.Sort.swp K j (j - 1)).toList) Try.underlying21 rfl rfl rfl rfl (by kernel_rfl) (by omega) H .zero (by rw [nums_length, len_setA]; omega) (nums_setA _ _ _ (nth_at (by omega))) ?_
                        clear H; intro w H
                        have hM2 : (Go.Sort.swp K j (j - 1)).toList.length = n := by rw [len_swp]; exact hM
                        refine WL_nil ?_
                        refine fin_mk ?_
                        refine inBlockE_normal ?_
                        refine thenE_normal ?_
                        refine WC_region ?_
                        refine WL_x (x_move (v := .int .i64 _) rfl) ?_
                        refine WL_x (x_binop rfl rfl (r_add_in (i64_in (by omega) (by omega)))) ?_
                        refine WL_x (x_assign (v := .int .i64 _) rfl) ?_
                        refine WL_nil ?_
                        refine thenE_normal ?_
                        exact ⟨(j + 1, Go.Sort.swp K j (j - 1)), ⟨by simp only; omega, by simp only; omega, hM2, by simp only; rw [← hK]; exact hI, (congrArg (Value.int .i64) (by first | omega | rfl | (simp only; omega))), rfl, rfl, rfl, rfl, rfl, H⟩, by simp only; omega⟩
                    · have hK := shiftUp_end (d := K) (b := b) (j := j) (.inl (by omega))
                      refine WC_exit ?_
                      refine thenE_exit ?_
                      refine thenE_exit ?_
                      refine inBlockE_exit ?_
                      refine inBlockE_normal ?_
                      refine thenE_normal ?_
                      first
                        | exact ⟨(i, K), by simp only; rw [pins_go hi (by omega) (by omega), ← hE3, Go.Sort.fixUp, if_pos (by omega), ← hI, hK], by simp only; omega, by simp only; omega, hM, rfl, rfl, rfl, rfl, rfl, H⟩
                        | exact ⟨(i, M3), by simp only; rw [pins_go hi (by omega) (by omega), ← hE3, Go.Sort.fixUp, if_neg (by omega)], by simp only; omega, by simp only; omega, hM3, rfl, rfl, rfl, rfl, rfl, H⟩
                · refine WC_skip ?_
                  refine inBlockE_normal ?_
                  refine thenE_normal ?_
                  first
                    | exact ⟨(i, K), by simp only; rw [pins_go hi (by omega) (by omega), ← hE3, Go.Sort.fixUp, if_pos (by omega), ← hI, hK], by simp only; omega, by simp only; omega, hM, rfl, rfl, rfl, rfl, rfl, H⟩
                    | exact ⟨(i, M3), by simp only; rw [pins_go hi (by omega) (by omega), ← hE3, Go.Sort.fixUp, if_neg (by omega)], by simp only; omega, by simp only; omega, hM3, rfl, rfl, rfl, rfl, rfl, H⟩
      · clear H
        rintro ⟨i, M4⟩ f w ⟨hE4, hi1, hi2, hM4, h8, h7, h0, h1, h2, H⟩
        simp only at hE4 hi1 hi2 hM4 h8 h7 h0 h1 h2 H
        rw [← upd_self h8, ← upd_self h7, ← upd_self h0, ← upd_self h1, ← upd_self h2]
        refine WC_region ?_
        refine WL_x (x_move (v := .int .i64 _) rfl) ?_
        refine WL_x (x_binop rfl rfl (r_add_in (i64_in (by omega) (by omega)))) ?_
        refine WL_x (x_assign (v := .int .i64 _) rfl) ?_
        refine WL_nil ?_
        refine thenE_normal ?_
        exact ⟨(st, i, M4), ⟨by simp only; omega, hi1, hi2, hM4, by simp only; rw [hE4, hO], (congrArg (Value.int .i64) (by first | omega | rfl | (simp only; omega))), rfl, rfl, rfl, rfl, H⟩, by simp only; omega⟩
    · obtain rfl : st = 0 := by omega
      have hR : Go.Sort.partialInsertionSort Go.Sort.ltInt d a b = (M, false) := by rw [Go.Sort.partialInsertionSort, ← hO]; rfl
      refine WC_exit ?_
      refine thenE_exit ?_
      refine thenE_exit ?_
      refine inBlockE_exit ?_
      refine thenE_normal ?_
      refine WC_seq ?_
      refine WC_region ?_
      refine WL_x (x_assign (v := (.bool false)) rfl) ?_
      refine WL_nil ?_
      refine thenE_normal ?_
      refine WC_ret ?_
      refine ends1 (v := .bool _) Try.results22 rfl ?_
      rw [hR]
      exact ⟨rfl, H.fr, H.ok _ List.mem_cons_self⟩

set_option maxHeartbeats 2000000 in
theorem part_i32 (W : World) (d : Array Int) (A : Option Addr) (c n : Nat) (h : (row A c 21 1 n (nums .i32 d.toList)).ok W) (hM : d.toList.length = n) (hsz : n ≤ 2305843009213693952) (a b pv : Nat) (hp1 : a ≤ pv) (hp2 : pv < b) (hb : b ≤ n) :
    Calls Try.prog 25 #[.slice A n c, .int .i64 a, .int .i64 b, .int .i64 pv] W fun e w' => ∃ mid ap D, Go.Sort.partition Go.Sort.ltInt d a b pv = (mid, ap, D) ∧ e = .returned (.tuple #[.int .i64 (mid : Nat), .bool ap]) ∧ Fr (row A c 21 1 n (nums .i32 d.toList)).fp W w' ∧ (row A c 21 1 n (nums .i32 D.toList)).ok w' := by
  have hlen0 := (owns_len h.r)
  unfold maxLen at hlen0
  have H : St W (row A c 21 1 n (nums .i32 d.toList)).fp [row A c 21 1 n (nums .i32 d.toList)] [] W := St.one h
  refine calls_enter (N := 168) Try.func25 rfl Try.ntmps25 rfl ?_
  refine WC_seq ?_
  refine WC_region ?_
  refine WL_x (x_assign (v := (.int .i64 0)) rfl) ?_
  refine WL_x (x_assign (v := (.bool false)) rfl) ?_
  refine WL_nil ?_
  refine thenE_normal ?_
  refine WC_seq ?_
  refine WC_drawT (m := 16) (listed := [false, false, false, false, false, false, false, false, false, false, false, false, false, false, false, false]) (by kernel_rfl) rfl rfl H ?_
  intro w H
  refine WG_take (i := 2) (listed' := [false, false, true, false, false, false, false, false, false, false, false, false, false, false, false, false]) rfl (by kernel_rfl) (fun w _ => x_move (v := .slice _ _ _) rfl) trivial rfl ?_
  refine WG_take (i := 3) (listed' := [false, false, true, true, false, false, false, false, false, false, false, false, false, false, false, false]) rfl (by kernel_rfl) (fun w _ => x_move (v := .int .i64 _) rfl) trivial rfl ?_
  refine WG_true (S := fun w => St W (row A c 21 1 n (nums .i32 d.toList)).fp [row A c 21 1 n (nums .i32 d.toList)] [] w) (n := 13) rfl ?_
  refine WG_take (i := 0) (listed' := [true, false, true, true, false, false, false, false, false, false, false, false, false, false, false, false]) rfl (by kernel_rfl) (fun w H => x_move (v := .slice _ _ _) rfl) H rfl ?_
  refine WG_take (i := 1) (listed' := [true, true, true, true, false, false, false, false, false, false, false, false, false, false, false, false]) rfl (by kernel_rfl) (fun w H => x_move (v := .int .i64 _) rfl) H rfl ?_
  refine WG_take (i := 4) (listed' := [true, true, true, true, true, false, false, false, false, false, false, false, false, false, false, false]) rfl (by kernel_rfl) (fun w H => x_move (v := .slice _ _ _) rfl) H rfl ?_
  refine WG_take (i := 5) (listed' := [true, true, true, true, true, true, false, false, false, false, false, false, false, false, false, false]) rfl (by kernel_rfl) (fun w H => x_move (v := .int .i64 _) rfl) H rfl ?_
  refine WG_take (i := 6) (listed' := [true, true, true, true, true, true, true, false, false, false, false, false, false, false, false, false]) rfl (by kernel_rfl) (fun w H => x_indexAddr (s := 1) Try.underlying23 (by kernel_rfl) rfl rfl (by omega) (by omega) (by first | rfl | assumption | exact H.rsomen .zero (by omega) | exact H.rsomen (.succ .zero) (by omega) | exact H.rsomen (.succ (.succ .zero)) (by omega) | exact H.osomen .zero (by omega) | exact H.osomen (.succ .zero) (by omega) | exact H.osomen (.succ (.succ .zero)) (by omega)) rfl) H rfl ?_
  first | refine WG_take (i := 7) (listed' := [true, true, true, true, true, true, true, true, false, false, false, false, false, false, false, false]) rfl (by kernel_rfl) (fun w H => x_load (v := .int .i32 _) Try.underlying21 rfl rfl (H.cellAt .zero rfl)) H rfl ?_ | refine WG_take (i := 7) (listed' := [true, true, true, true, true, true, true, true, false, false, false, false, false, false, false, false]) rfl (by kernel_rfl) (fun w H => x_load (v := .int .i32 _) Try.underlying21 rfl rfl (H.cellAt (.succ .zero) rfl)) H rfl ?_ | refine WG_take (i := 7) (listed' := [true, true, true, true, true, true, true, true, false, false, false, false, false, false, false, false]) rfl (by kernel_rfl) (fun w H => x_load (v := .int .i32 _) Try.underlying21 rfl rfl (H.cellAt (.succ (.succ .zero)) rfl)) H rfl ?_ | refine WG_take (i := 7) (listed' := [true, true, true, true, true, true, true, true, false, false, false, false, false, false, false, false]) rfl (by kernel_rfl) (fun w H => x_load (v := .int .i32 _) Try.underlying21 rfl rfl (H.cellAt (.succ (.succ (.succ .zero))) rfl)) H rfl ?_ | refine WG_take (i := 7) (listed' := [true, true, true, true, true, true, true, true, false, false, false, false, false, false, false, false]) rfl (by kernel_rfl) (fun w H => x_load (v := .int .i32 _) Try.underlying21 rfl rfl (H.cellAt (.succ (.succ (.succ (.succ .zero)))) rfl)) H rfl ?_ | refine WG_take (i := 7) (listed' := [true, true, true, true, true, true, true, true, false, false, false, false, false, false, false, false]) rfl (by kernel_rfl) (fun w H => x_load Try.underlying21 rfl rfl (H.rnum .zero (by omega) (by omega))) H rfl ?_ | refine WG_take (i := 7) (listed' := [true, true, true, true, true, true, true, true, false, false, false, false, false, false, false, false]) rfl (by kernel_rfl) (fun w H => x_load Try.underlying21 rfl rfl (H.rnum (.succ .zero) (by omega) (by omega))) H rfl ?_ | refine WG_take (i := 7) (listed' := [true, true, true, true, true, true, true, true, false, false, false, false, false, false, false, false]) rfl (by kernel_rfl) (fun w H => x_load Try.underlying21 rfl rfl (H.rnum (.succ (.succ .zero)) (by omega) (by omega))) H rfl ?_ | refine WG_take (i := 7) (listed' := [true, true, true, true, true, true, true, true, false, false, false, false, false, false, false, false]) rfl (by kernel_rfl) (fun w H => x_load Try.underlying21 rfl rfl (H.onum .zero (by omega) (by omega))) H rfl ?_ | refine WG_take (i := 7) (listed' := [true, true, true, true, true, true, true, true, false, false, false, false, false, false, false, false]) rfl (by kernel_rfl) (fun w H => x_load Try.underlying21 rfl rfl (H.onum (.succ .zero) (by omega) (by omega))) H rfl ?_ | refine WG_take (i := 7) (listed' := [true, true, true, true, true, true, true, true, false, false, false, false, false, false, false, false]) rfl (by kernel_rfl) (fun w H => x_load Try.underlying21 rfl rfl (H.onum (.succ (.succ .zero)) (by omega) (by omega))) H rfl ?_
  refine WG_take (i := 8) (listed' := [true, true, true, true, true, true, true, true, true, false, false, false, false, false, false, false]) rfl (by kernel_rfl) (fun w H => x_move (v := .slice _ _ _) rfl) H rfl ?_
  refine WG_take (i := 9) (listed' := [true, true, true, true, true, true, true, true, true, true, false, false, false, false, false, false]) rfl (by kernel_rfl) (fun w H => x_move (v := .int .i64 _) rfl) H rfl ?_
  refine WG_take (i := 10) (listed' := [true, true, true, true, true, true, true, true, true, true, true, false, false, false, false, false]) rfl (by kernel_rfl) (fun w H => x_indexAddr (s := 1) Try.underlying23 (by kernel_rfl) rfl rfl (by omega) (by omega) (by first | rfl | assumption | exact H.rsomen .zero (by omega) | exact H.rsomen (.succ .zero) (by omega) | exact H.rsomen (.succ (.succ .zero)) (by omega) | exact H.osomen .zero (by omega) | exact H.osomen (.succ .zero) (by omega) | exact H.osomen (.succ (.succ .zero)) (by omega)) rfl) H rfl ?_
  first | refine WG_take (i := 11) (listed' := [true, true, true, true, true, true, true, true, true, true, true, true, false, false, false, false]) rfl (by kernel_rfl) (fun w H => x_load (v := .int .i32 _) Try.underlying21 rfl rfl (H.cellAt .zero rfl)) H rfl ?_ | refine WG_take (i := 11) (listed' := [true, true, true, true, true, true, true, true, true, true, true, true, false, false, false, false]) rfl (by kernel_rfl) (fun w H => x_load (v := .int .i32 _) Try.underlying21 rfl rfl (H.cellAt (.succ .zero) rfl)) H rfl ?_ | refine WG_take (i := 11) (listed' := [true, true, true, true, true, true, true, true, true, true, true, true, false, false, false, false]) rfl (by kernel_rfl) (fun w H => x_load (v := .int .i32 _) Try.underlying21 rfl rfl (H.cellAt (.succ (.succ .zero)) rfl)) H rfl ?_ | refine WG_take (i := 11) (listed' := [true, true, true, true, true, true, true, true, true, true, true, true, false, false, false, false]) rfl (by kernel_rfl) (fun w H => x_load (v := .int .i32 _) Try.underlying21 rfl rfl (H.cellAt (.succ (.succ (.succ .zero))) rfl)) H rfl ?_ | refine WG_take (i := 11) (listed' := [true, true, true, true, true, true, true, true, true, true, true, true, false, false, false, false]) rfl (by kernel_rfl) (fun w H => x_load (v := .int .i32 _) Try.underlying21 rfl rfl (H.cellAt (.succ (.succ (.succ (.succ .zero)))) rfl)) H rfl ?_ | refine WG_take (i := 11) (listed' := [true, true, true, true, true, true, true, true, true, true, true, true, false, false, false, false]) rfl (by kernel_rfl) (fun w H => x_load Try.underlying21 rfl rfl (H.rnum .zero (by omega) (by omega))) H rfl ?_ | refine WG_take (i := 11) (listed' := [true, true, true, true, true, true, true, true, true, true, true, true, false, false, false, false]) rfl (by kernel_rfl) (fun w H => x_load Try.underlying21 rfl rfl (H.rnum (.succ .zero) (by omega) (by omega))) H rfl ?_ | refine WG_take (i := 11) (listed' := [true, true, true, true, true, true, true, true, true, true, true, true, false, false, false, false]) rfl (by kernel_rfl) (fun w H => x_load Try.underlying21 rfl rfl (H.rnum (.succ (.succ .zero)) (by omega) (by omega))) H rfl ?_ | refine WG_take (i := 11) (listed' := [true, true, true, true, true, true, true, true, true, true, true, true, false, false, false, false]) rfl (by kernel_rfl) (fun w H => x_load Try.underlying21 rfl rfl (H.onum .zero (by omega) (by omega))) H rfl ?_ | refine WG_take (i := 11) (listed' := [true, true, true, true, true, true, true, true, true, true, true, true, false, false, false, false]) rfl (by kernel_rfl) (fun w H => x_load Try.underlying21 rfl rfl (H.onum (.succ .zero) (by omega) (by omega))) H rfl ?_ | refine WG_take (i := 11) (listed' := [true, true, true, true, true, true, true, true, true, true, true, true, false, false, false, false]) rfl (by kernel_rfl) (fun w H => x_load Try.underlying21 rfl rfl (H.onum (.succ (.succ .zero)) (by omega) (by omega))) H rfl ?_
  refine WG_take (i := 12) (listed' := [true, true, true, true, true, true, true, true, true, true, true, true, true, false, false, false]) rfl (by kernel_rfl) (fun w H => x_indexAddr (s := 1) Try.underlying23 (by kernel_rfl) rfl rfl (by omega) (by omega) (by first | rfl | assumption | exact H.rsomen .zero (by omega) | exact H.rsomen (.succ .zero) (by omega) | exact H.rsomen (.succ (.succ .zero)) (by omega) | exact H.osomen .zero (by omega) | exact H.osomen (.succ .zero) (by omega) | exact H.osomen (.succ (.succ .zero)) (by omega)) rfl) H rfl ?_
  refine WG_next (fun w => St W (row A c 21 1 n (nums .i32 d.toList)).fp [row A c 21 1 n (nums .i32 (d.setIfInBounds a d[pv]!).toList)] [] w) 15 (listed' := [true, true, true, true, true, true, true, true, true, true, true, true, true, true, false, false]) rfl rfl (by kernel_rfl) rfl ?_
  refine WL_storeR (v := .int .i32 _) (o := a) (n := n) (xs := nums .i32 d.toList) (xs' := nums .i32 (d.setIfInBounds a d[pv]!).toList) Try.underlying21 rfl rfl rfl rfl (by kernel_rfl) (by omega) H .zero (by rw [nums_length]; omega) (nums_setA _ _ _ (nth_at (by omega))) ?_
  clear H; intro w H
  refine WL_nil ?_
  refine nx_mk ?_
  refine WG_take (i := 14) (listed' := [true, true, true, true, true, true, true, true, true, true, true, true, true, true, true, false]) rfl (by kernel_rfl) (fun w H => x_indexAddr (s := 1) Try.underlying23 (by kernel_rfl) rfl rfl (by omega) (by omega) (H.osomen .zero (by rw [len_setA]; omega)) rfl) H rfl ?_
  refine WG_fin (listed' := [true, true, true, true, true, true, true, true, true, true, true, true, true, true, true, true]) rfl rfl (by kernel_rfl) rfl (by kernel_rfl) ?_
  refine WL_storeR (v := .int .i32 _) (o := pv) (n := n) (xs := nums .i32 (d.setIfInBounds a d[pv]!).toList) (xs' := nums .i32 (Go.Sort.swp d a pv).toList) Try.underlying21 rfl rfl rfl rfl (by kernel_rfl) (by omega) H .zero (by rw [nums_length, len_setA]; omega) (nums_setA _ _ _ (nth_at (by omega))) ?_
  clear H; intro w H
  have hM2 : (Go.Sort.swp d a pv).toList.length = n := by rw [len_swp]; exact hM
  refine WL_nil ?_
  refine fin_mk ?_
  refine thenE_normal ?_
  refine WC_seq ?_
  obtain ⟨M, hMe⟩ : ∃ M, M = (Go.Sort.swp d a pv) := ⟨_, rfl⟩
  rw [← hMe] at H hM2
  clear hM
  have hM := hM2
  refine WC_region ?_
  refine WL_x (x_move (v := .int .i64 _) rfl) ?_
  refine WL_x (x_binop rfl rfl (r_add_in (i64_in (by omega) (by omega)))) ?_
  refine WL_x (x_move (v := .int .i64 _) rfl) ?_
  refine WL_x (x_binop rfl rfl (r_sub_in (i64_in (by omega) (by omega)))) ?_
  refine WL_x (x_assign (v := .int .i64 _) rfl) ?_
  refine WL_x (x_assign (v := .int .i64 _) rfl) ?_
  refine WL_nil ?_
  refine thenE_normal ?_
  refine WC_cut (fun (i : Nat) f w' => i = Go.Sort.scanUp (fun x => Go.Sort.ltInt x M[a]!) M (b - 1) (a + 1) ∧ (a + 1) ≤ i ∧ i ≤ b - 1 + 1 ∧ f 10 = .int .i64 i ∧ f 11 = .int .i64 ((b - 1) : Nat) ∧ f 0 = .slice A n c ∧ f 1 = .int .i64 a ∧ St W (row A c 21 1 n (nums .i32 d.toList)).fp [row A c 21 1 n (nums .i32 M.toList)] [] w') ?_ ?_
  · refine WC_block ?_
    refine WC_while (fun (i : Nat) f w' => Go.Sort.scanUp (fun x => Go.Sort.ltInt x M[a]!) M (b - 1) i = Go.Sort.scanUp (fun x => Go.Sort.ltInt x M[a]!) M (b - 1) (a + 1) ∧ (a + 1) ≤ i ∧ i ≤ b - 1 + 1 ∧ f 10 = .int .i64 i ∧ f 11 = .int .i64 ((b - 1) : Nat) ∧ f 0 = .slice A n c ∧ f 1 = .int .i64 a ∧ St W (row A c 21 1 n (nums .i32 d.toList)).fp [row A c 21 1 n (nums .i32 M.toList)] [] w') (fun i => b - i) (s0 := ((a + 1))) ?_ ?_
    · exact ⟨rfl, Nat.le_refl _, by omega, (congrArg (Value.int .i64) (by first | omega | rfl | (simp only; omega))), (congrArg (Value.int .i64) (by first | omega | rfl | (simp only; omega))), rfl, rfl, H⟩
    · clear H
      rintro i f w ⟨hI, hi1, hi2, hfi, hfj, h0, h1, H⟩
      rw [← upd_self hfi, ← upd_self hfj, ← upd_self h0, ← upd_self h1]
      refine WC_seq ?_
      refine WC_seq ?_
      refine WC_drawH (m := 14) (listed := [false, false, false, false, false, false, false, false, false, false, false, false, false, false]) 14 (by kernel_rfl) rfl rfl H ?_
      intro w H
      refine WG_take (i := 0) (listed' := [true, false, false, false, false, false, false, false, false, false, false, false, false, false]) rfl (by kernel_rfl) (fun w H => x_move (v := .int .i64 _) rfl) H rfl ?_
      refine WG_take (i := 1) (listed' := [true, true, false, false, false, false, false, false, false, false, false, false, false, false]) rfl (by kernel_rfl) (fun w H => x_move (v := .int .i64 _) rfl) H rfl ?_
      refine WG_take (i := 2) (listed' := [true, true, true, false, false, false, false, false, false, false, false, false, false, false]) rfl (by kernel_rfl) (fun w H => x_binop rfl rfl (r_leq _ _ _ _)) H rfl ?_
      refine WG_take (i := 3) (listed' := [true, true, true, true, false, false, false, false, false, false, false, false, false, false]) rfl (by kernel_rfl) (fun w H => x_move (v := .bool _) rfl) H rfl ?_
      first | refine WG_cased (t := 33) rfl (fun h33 => ?_) (fun h33 => ?_) | refine WG_casen (t := 33) rfl (fun h33 => ?_) (fun h33 => ?_) | refine WG_case (t := 33) rfl (fun h33 => ?_) (fun h33 => ?_)
      · refine WG_takeG (i := 4) (listed' := [true, true, true, true, true, false, false, false, false, false, false, false, false, false]) rfl (by kernel_rfl) rfl rfl rfl (fun w H => x_move (v := .slice _ _ _) rfl) H rfl ?_
        refine WG_takeG (i := 5) (listed' := [true, true, true, true, true, true, false, false, false, false, false, false, false, false]) rfl (by kernel_rfl) rfl rfl rfl (fun w H => x_move (v := .int .i64 _) rfl) H rfl ?_
        refine WG_takeG (i := 6) (listed' := [true, true, true, true, true, true, true, false, false, false, false, false, false, false]) rfl (by kernel_rfl) rfl rfl rfl (fun w H => x_indexAddr (s := 1) Try.underlying23 (by kernel_rfl) rfl rfl (by omega) (by omega) (by first | rfl | assumption | exact H.rsomen .zero (by omega) | exact H.rsomen (.succ .zero) (by omega) | exact H.rsomen (.succ (.succ .zero)) (by omega) | exact H.osomen .zero (by omega) | exact H.osomen (.succ .zero) (by omega) | exact H.osomen (.succ (.succ .zero)) (by omega)) rfl) H rfl ?_
        first | refine WG_takeG (i := 7) (listed' := [true, true, true, true, true, true, true, true, false, false, false, false, false, false]) rfl (by kernel_rfl) rfl rfl rfl (fun w H => x_load (v := .int .i32 _) Try.underlying21 rfl rfl (H.cellAt .zero rfl)) H rfl ?_ | refine WG_takeG (i := 7) (listed' := [true, true, true, true, true, true, true, true, false, false, false, false, false, false]) rfl (by kernel_rfl) rfl rfl rfl (fun w H => x_load (v := .int .i32 _) Try.underlying21 rfl rfl (H.cellAt (.succ .zero) rfl)) H rfl ?_ | refine WG_takeG (i := 7) (listed' := [true, true, true, true, true, true, true, true, false, false, false, false, false, false]) rfl (by kernel_rfl) rfl rfl rfl (fun w H => x_load (v := .int .i32 _) Try.underlying21 rfl rfl (H.cellAt (.succ (.succ .zero)) rfl)) H rfl ?_ | refine WG_takeG (i := 7) (listed' := [true, true, true, true, true, true, true, true, false, false, false, false, false, false]) rfl (by kernel_rfl) rfl rfl rfl (fun w H => x_load (v := .int .i32 _) Try.underlying21 rfl rfl (H.cellAt (.succ (.succ (.succ .zero))) rfl)) H rfl ?_ | refine WG_takeG (i := 7) (listed' := [true, true, true, true, true, true, true, true, false, false, false, false, false, false]) rfl (by kernel_rfl) rfl rfl rfl (fun w H => x_load (v := .int .i32 _) Try.underlying21 rfl rfl (H.cellAt (.succ (.succ (.succ (.succ .zero)))) rfl)) H rfl ?_ | refine WG_takeG (i := 7) (listed' := [true, true, true, true, true, true, true, true, false, false, false, false, false, false]) rfl (by kernel_rfl) rfl rfl rfl (fun w H => x_load Try.underlying21 rfl rfl (H.rnum .zero (by omega) (by omega))) H rfl ?_ | refine WG_takeG (i := 7) (listed' := [true, true, true, true, true, true, true, true, false, false, false, false, false, false]) rfl (by kernel_rfl) rfl rfl rfl (fun w H => x_load Try.underlying21 rfl rfl (H.rnum (.succ .zero) (by omega) (by omega))) H rfl ?_ | refine WG_takeG (i := 7) (listed' := [true, true, true, true, true, true, true, true, false, false, false, false, false, false]) rfl (by kernel_rfl) rfl rfl rfl (fun w H => x_load Try.underlying21 rfl rfl (H.rnum (.succ (.succ .zero)) (by omega) (by omega))) H rfl ?_ | refine WG_takeG (i := 7) (listed' := [true, true, true, true, true, true, true, true, false, false, false, false, false, false]) rfl (by kernel_rfl) rfl rfl rfl (fun w H => x_load Try.underlying21 rfl rfl (H.onum .zero (by omega) (by omega))) H rfl ?_ | refine WG_takeG (i := 7) (listed' := [true, true, true, true, true, true, true, true, false, false, false, false, false, false]) rfl (by kernel_rfl) rfl rfl rfl (fun w H => x_load Try.underlying21 rfl rfl (H.onum (.succ .zero) (by omega) (by omega))) H rfl ?_ | refine WG_takeG (i := 7) (listed' := [true, true, true, true, true, true, true, true, false, false, false, false, false, false]) rfl (by kernel_rfl) rfl rfl rfl (fun w H => x_load Try.underlying21 rfl rfl (H.onum (.succ (.succ .zero)) (by omega) (by omega))) H rfl ?_
        refine WG_takeG (i := 8) (listed' := [true, true, true, true, true, true, true, true, true, false, false, false, false, false]) rfl (by kernel_rfl) rfl rfl rfl (fun w H => x_move (v := .slice _ _ _) rfl) H rfl ?_
        refine WG_takeG (i := 9) (listed' := [true, true, true, true, true, true, true, true, true, true, false, false, false, false]) rfl (by kernel_rfl) rfl rfl rfl (fun w H => x_move (v := .int .i64 _) rfl) H rfl ?_
        refine WG_takeG (i := 10) (listed' := [true, true, true, true, true, true, true, true, true, true, true, false, false, false]) rfl (by kernel_rfl) rfl rfl rfl (fun w H => x_indexAddr (s := 1) Try.underlying23 (by kernel_rfl) rfl rfl (by omega) (by omega) (by first | rfl | assumption | exact H.rsomen .zero (by omega) | exact H.rsomen (.succ .zero) (by omega) | exact H.rsomen (.succ (.succ .zero)) (by omega) | exact H.osomen .zero (by omega) | exact H.osomen (.succ .zero) (by omega) | exact H.osomen (.succ (.succ .zero)) (by omega)) rfl) H rfl ?_
        first | refine WG_takeG (i := 11) (listed' := [true, true, true, true, true, true, true, true, true, true, true, true, false, false]) rfl (by kernel_rfl) rfl rfl rfl (fun w H => x_load (v := .int .i32 _) Try.underlying21 rfl rfl (H.cellAt .zero rfl)) H rfl ?_ | refine WG_takeG (i := 11) (listed' := [true, true, true, true, true, true, true, true, true, true, true, true, false, false]) rfl (by kernel_rfl) rfl rfl rfl (fun w H => x_load (v := .int .i32 _) Try.underlying21 rfl rfl (H.cellAt (.succ .zero) rfl)) H rfl ?_ | refine WG_takeG (i := 11) (listed' := [true, true, true, true, true, true, true, true, true, true, true, true, false, false]) rfl (by kernel_rfl) rfl rfl rfl (fun w H => x_load (v := .int .i32 _) Try.underlying21 rfl rfl (H.cellAt (.succ (.succ .zero)) rfl)) H rfl ?_ | refine WG_takeG (i := 11) (listed' := [true, true, true, true, true, true, true, true, true, true, true, true, false, false]) rfl (by kernel_rfl) rfl rfl rfl (fun w H => x_load (v := .int .i32 _) Try.underlying21 rfl rfl (H.cellAt (.succ (.succ (.succ .zero))) rfl)) H rfl ?_ | refine WG_takeG (i := 11) (listed' := [true, true, true, true, true, true, true, true, true, true, true, true, false, false]) rfl (by kernel_rfl) rfl rfl rfl (fun w H => x_load (v := .int .i32 _) Try.underlying21 rfl rfl (H.cellAt (.succ (.succ (.succ (.succ .zero)))) rfl)) H rfl ?_ | refine WG_takeG (i := 11) (listed' := [true, true, true, true, true, true, true, true, true, true, true, true, false, false]) rfl (by kernel_rfl) rfl rfl rfl (fun w H => x_load Try.underlying21 rfl rfl (H.rnum .zero (by omega) (by omega))) H rfl ?_ | refine WG_takeG (i := 11) (listed' := [true, true, true, true, true, true, true, true, true, true, true, true, false, false]) rfl (by kernel_rfl) rfl rfl rfl (fun w H => x_load Try.underlying21 rfl rfl (H.rnum (.succ .zero) (by omega) (by omega))) H rfl ?_ | refine WG_takeG (i := 11) (listed' := [true, true, true, true, true, true, true, true, true, true, true, true, false, false]) rfl (by kernel_rfl) rfl rfl rfl (fun w H => x_load Try.underlying21 rfl rfl (H.rnum (.succ (.succ .zero)) (by omega) (by omega))) H rfl ?_ | refine WG_takeG (i := 11) (listed' := [true, true, true, true, true, true, true, true, true, true, true, true, false, false]) rfl (by kernel_rfl) rfl rfl rfl (fun w H => x_load Try.underlying21 rfl rfl (H.onum .zero (by omega) (by omega))) H rfl ?_ | refine WG_takeG (i := 11) (listed' := [true, true, true, true, true, true, true, true, true, true, true, true, false, false]) rfl (by kernel_rfl) rfl rfl rfl (fun w H => x_load Try.underlying21 rfl rfl (H.onum (.succ .zero) (by omega) (by omega))) H rfl ?_ | refine WG_takeG (i := 11) (listed' := [true, true, true, true, true, true, true, true, true, true, true, true, false, false]) rfl (by kernel_rfl) rfl rfl rfl (fun w H => x_load Try.underlying21 rfl rfl (H.onum (.succ (.succ .zero)) (by omega) (by omega))) H rfl ?_
        refine WG_midG (i := 12) (listed' := [true, true, true, true, true, true, true, true, true, true, true, true, true, false]) rfl rfl rfl rfl rfl (by kernel_rfl) rfl rfl ?_
        refine WL_guard_yes rfl rfl rfl ?_
        refine WL_call (vs := [.int .i32 _, .int .i32 _]) Try.func23 rfl rfl rfl (less_i32 _ _ _) ?_
        rintro _ w ⟨rfl, hf⟩
        refine ⟨_, rfl, ?_⟩
        replace H := H.quiet hf
        refine WL_nil ?_
        refine mid_mk H ?_
        refine WG_take (i := 13) (listed' := [true, true, true, true, true, true, true, true, true, true, true, true, true, true]) rfl (by kernel_rfl) (fun w H => x_pick (v := .bool _) rfl rfl) H rfl ?_
        refine WG_done (by kernel_rfl) ?_
        refine thenE_normal ?_
        refine WC_ifd rfl (fun h43 => ?_) (fun h43 => ?_)
        · have hK := scanUp_go (p := (fun x => Go.Sort.ltInt x M[a]!)) (d := M) (j := (b - 1)) (i := i) (by omega) (by exact lt_yes h43 (by omega) (by omega))
          refine WC_skip ?_
          refine thenE_normal ?_
          refine WC_block ?_
          refine WC_region ?_
          refine WL_x (x_move (v := .int .i64 _) rfl) ?_
          refine WL_x (x_binop rfl rfl (r_add_in (i64_in (by omega) (by omega)))) ?_
          refine WL_x (x_assign (v := .int .i64 _) rfl) ?_
          refine WL_nil ?_
          refine inBlockE_normal ?_
          refine thenE_normal ?_
          exact ⟨i + 1, ⟨by rw [← hI, hK], by omega, by omega, (congrArg (Value.int .i64) (by first | omega | rfl | (simp only; omega))), rfl, rfl, rfl, H⟩, by omega⟩
        · have hK := scanUp_end (p := (fun x => Go.Sort.ltInt x M[a]!)) (d := M) (j := (b - 1)) (i := i) (.inr (by exact lt_no h43 (by omega) (by omega)))
          refine WC_exit ?_
          refine thenE_exit ?_
          refine thenE_exit ?_
          refine inBlockE_exit ?_
          refine thenE_normal ?_
          exact ⟨i, by rw [← hI, hK], by omega, by omega, rfl, rfl, rfl, rfl, H⟩
      · have hK := scanUp_end (p := (fun x => Go.Sort.ltInt x M[a]!)) (d := M) (j := (b - 1)) (i := i) (.inl (by omega))
        refine WG_skip (i := 4) (listed' := [true, true, true, true, true, false, false, false, false, false, false, false, false, false]) rfl (by kernel_rfl) rfl rfl rfl H rfl ?_
        refine WG_skip (i := 5) (listed' := [true, true, true, true, true, true, false, false, false, false, false, false, false, false]) rfl (by kernel_rfl) rfl rfl rfl H rfl ?_
        refine WG_skip (i := 6) (listed' := [true, true, true, true, true, true, true, false, false, false, false, false, false, false]) rfl (by kernel_rfl) rfl rfl rfl H rfl ?_
        refine WG_skip (i := 7) (listed' := [true, true, true, true, true, true, true, true, false, false, false, false, false, false]) rfl (by kernel_rfl) rfl rfl rfl H rfl ?_
        refine WG_skip (i := 8) (listed' := [true, true, true, true, true, true, true, true, true, false, false, false, false, false]) rfl (by kernel_rfl) rfl rfl rfl H rfl ?_
        refine WG_skip (i := 9) (listed' := [true, true, true, true, true, true, true, true, true, true, false, false, false, false]) rfl (by kernel_rfl) rfl rfl rfl H rfl ?_
        refine WG_skip (i := 10) (listed' := [true, true, true, true, true, true, true, true, true, true, true, false, false, false]) rfl (by kernel_rfl) rfl rfl rfl H rfl ?_
        refine WG_skip (i := 11) (listed' := [true, true, true, true, true, true, true, true, true, true, true, true, false, false]) rfl (by kernel_rfl) rfl rfl rfl H rfl ?_
        refine WG_skip (i := 12) (listed' := [true, true, true, true, true, true, true, true, true, true, true, true, true, false]) rfl (by kernel_rfl) rfl rfl rfl H rfl ?_
        refine WG_take (i := 13) (listed' := [true, true, true, true, true, true, true, true, true, true, true, true, true, true]) rfl (by kernel_rfl) (fun w H => x_pick (v := .bool _) rfl rfl) H rfl ?_
        refine WG_done (by kernel_rfl) ?_
        refine thenE_normal ?_
        refine WC_no rfl ?_
        refine WC_exit ?_
        refine thenE_exit ?_
        refine thenE_exit ?_
        refine inBlockE_exit ?_
        refine thenE_normal ?_
        exact ⟨i, by rw [← hI, hK], by omega, by omega, rfl, rfl, rfl, rfl, H⟩
  · clear H
    rintro i f w ⟨hi, hi1, hi2, hfi, hfj, h0, h1, H⟩
    rw [← upd_self hfi, ← upd_self hfj, ← upd_self h0, ← upd_self h1]
    have hij : i ≤ b - 1 + 2 := by omega
    refine WC_cut (fun (j : Nat) f w' => j = Go.Sort.scanDown (fun x => !Go.Sort.ltInt x M[a]!) M i (b - 1) ∧ i ≤ j + 2 ∧ j ≤ (b - 1) ∧ f 11 = .int .i64 j ∧ f 10 = .int .i64 i ∧ f 0 = .slice A n c ∧ f 1 = .int .i64 a ∧ St W (row A c 21 1 n (nums .i32 d.toList)).fp [row A c 21 1 n (nums .i32 M.toList)] [] w') ?_ ?_
    · refine WC_block ?_
      refine WC_while (fun (j : Nat) f w' => Go.Sort.scanDown (fun x => !Go.Sort.ltInt x M[a]!) M i j = Go.Sort.scanDown (fun x => !Go.Sort.ltInt x M[a]!) M i (b - 1) ∧ i ≤ j + 2 ∧ j ≤ (b - 1) ∧ f 11 = .int .i64 j ∧ f 10 = .int .i64 i ∧ f 0 = .slice A n c ∧ f 1 = .int .i64 a ∧ St W (row A c 21 1 n (nums .i32 d.toList)).fp [row A c 21 1 n (nums .i32 M.toList)] [] w') (fun j => j) (s0 := ((b - 1))) ?_ ?_
      · exact ⟨rfl, hij, Nat.le_refl _, (congrArg (Value.int .i64) (by first | omega | rfl | (simp only; omega))), (congrArg (Value.int .i64) (by first | omega | rfl | (simp only; omega))), rfl, rfl, H⟩
      · clear H
        rintro j f w ⟨hI, hj1, hj2, hfj, hfi, h0, h1, H⟩
        rw [← upd_self hfi, ← upd_self hfj, ← upd_self h0, ← upd_self h1]
        refine WC_seq ?_
        refine WC_seq ?_
        refine WC_drawH (m := 15) (listed := [false, false, false, false, false, false, false, false, false, false, false, false, false, false, false]) 15 (by kernel_rfl) rfl rfl H ?_
        intro w H
        refine WG_take (i := 0) (listed' := [true, false, false, false, false, false, false, false, false, false, false, false, false, false, false]) rfl (by kernel_rfl) (fun w H => x_move (v := .int .i64 _) rfl) H rfl ?_
        refine WG_take (i := 1) (listed' := [true, true, false, false, false, false, false, false, false, false, false, false, false, false, false]) rfl (by kernel_rfl) (fun w H => x_move (v := .int .i64 _) rfl) H rfl ?_
        refine WG_take (i := 2) (listed' := [true, true, true, false, false, false, false, false, false, false, false, false, false, false, false]) rfl (by kernel_rfl) (fun w H => x_binop rfl rfl (r_leq _ _ _ _)) H rfl ?_
        refine WG_take (i := 3) (listed' := [true, true, true, true, false, false, false, false, false, false, false, false, false, false, false]) rfl (by kernel_rfl) (fun w H => x_move (v := .bool _) rfl) H rfl ?_
        first | refine WG_cased (t := 49) rfl (fun h49 => ?_) (fun h49 => ?_) | refine WG_casen (t := 49) rfl (fun h49 => ?_) (fun h49 => ?_) | refine WG_case (t := 49) rfl (fun h49 => ?_) (fun h49 => ?_)
        · obtain ⟨j, rfl⟩ : ∃ j9, j = j9 + 1 := ⟨j - 1, by omega⟩
          refine WG_takeG (i := 4) (listed' := [true, true, true, true, true, false, false, false, false, false, false, false, false, false, false]) rfl (by kernel_rfl) rfl rfl rfl (fun w H => x_move (v := .slice _ _ _) rfl) H rfl ?_
          refine WG_takeG (i := 5) (listed' := [true, true, true, true, true, true, false, false, false, false, false, false, false, false, false]) rfl (by kernel_rfl) rfl rfl rfl (fun w H => x_move (v := .int .i64 _) rfl) H rfl ?_
          refine WG_takeG (i := 6) (listed' := [true, true, true, true, true, true, true, false, false, false, false, false, false, false, false]) rfl (by kernel_rfl) rfl rfl rfl (fun w H => x_indexAddr (s := 1) Try.underlying23 (by kernel_rfl) rfl rfl (by omega) (by omega) (by first | rfl | assumption | exact H.rsomen .zero (by omega) | exact H.rsomen (.succ .zero) (by omega) | exact H.rsomen (.succ (.succ .zero)) (by omega) | exact H.osomen .zero (by omega) | exact H.osomen (.succ .zero) (by omega) | exact H.osomen (.succ (.succ .zero)) (by omega)) rfl) H rfl ?_
          first | refine WG_takeG (i := 7) (listed' := [true, true, true, true, true, true, true, true, false, false, false, false, false, false, false]) rfl (by kernel_rfl) rfl rfl rfl (fun w H => x_load (v := .int .i32 _) Try.underlying21 rfl rfl (H.cellAt .zero rfl)) H rfl ?_ | refine WG_takeG (i := 7) (listed' := [true, true, true, true, true, true, true, true, false, false, false, false, false, false, false]) rfl (by kernel_rfl) rfl rfl rfl (fun w H => x_load (v := .int .i32 _) Try.underlying21 rfl rfl (H.cellAt (.succ .zero) rfl)) H rfl ?_ | refine WG_takeG (i := 7) (listed' := [true, true, true, true, true, true, true, true, false, false, false, false, false, false, false]) rfl (by kernel_rfl) rfl rfl rfl (fun w H => x_load (v := .int .i32 _) Try.underlying21 rfl rfl (H.cellAt (.succ (.succ .zero)) rfl)) H rfl ?_ | refine WG_takeG (i := 7) (listed' := [true, true, true, true, true, true, true, true, false, false, false, false, false, false, false]) rfl (by kernel_rfl) rfl rfl rfl (fun w H => x_load (v := .int .i32 _) Try.underlying21 rfl rfl (H.cellAt (.succ (.succ (.succ .zero))) rfl)) H rfl ?_ | refine WG_takeG (i := 7) (listed' := [true, true, true, true, true, true, true, true, false, false, false, false, false, false, false]) rfl (by kernel_rfl) rfl rfl rfl (fun w H => x_load (v := .int .i32 _) Try.underlying21 rfl rfl (H.cellAt (.succ (.succ (.succ (.succ .zero)))) rfl)) H rfl ?_ | refine WG_takeG (i := 7) (listed' := [true, true, true, true, true, true, true, true, false, false, false, false, false, false, false]) rfl (by kernel_rfl) rfl rfl rfl (fun w H => x_load Try.underlying21 rfl rfl (H.rnum .zero (by omega) (by omega))) H rfl ?_ | refine WG_takeG (i := 7) (listed' := [true, true, true, true, true, true, true, true, false, false, false, false, false, false, false]) rfl (by kernel_rfl) rfl rfl rfl (fun w H => x_load Try.underlying21 rfl rfl (H.rnum (.succ .zero) (by omega) (by omega))) H rfl ?_ | refine WG_takeG (i := 7) (listed' := [true, true, true, true, true, true, true, true, false, false, false, false, false, false, false]) rfl (by kernel_rfl) rfl rfl rfl (fun w H => x_load Try.underlying21 rfl rfl (H.rnum (.succ (.succ .zero)) (by omega) (by omega))) H rfl ?_ | refine WG_takeG (i := 7) (listed' := [true, true, true, true, true, true, true, true, false, false, false, false, false, false, false]) rfl (by kernel_rfl) rfl rfl rfl (fun w H => x_load Try.underlying21 rfl rfl (H.onum .zero (by omega) (by omega))) H rfl ?_ | refine WG_takeG (i := 7) (listed' := [true, true, true, true, true, true, true, true, false, false, false, false, false, false, false]) rfl (by kernel_rfl) rfl rfl rfl (fun w H => x_load Try.underlying21 rfl rfl (H.onum (.succ .zero) (by omega) (by omega))) H rfl ?_ | refine WG_takeG (i := 7) (listed' := [true, true, true, true, true, true, true, true, false, false, false, false, false, false, false]) rfl (by kernel_rfl) rfl rfl rfl (fun w H => x_load Try.underlying21 rfl rfl (H.onum (.succ (.succ .zero)) (by omega) (by omega))) H rfl ?_
          refine WG_takeG (i := 8) (listed' := [true, true, true, true, true, true, true, true, true, false, false, false, false, false, false]) rfl (by kernel_rfl) rfl rfl rfl (fun w H => x_move (v := .slice _ _ _) rfl) H rfl ?_
          refine WG_takeG (i := 9) (listed' := [true, true, true, true, true, true, true, true, true, true, false, false, false, false, false]) rfl (by kernel_rfl) rfl rfl rfl (fun w H => x_move (v := .int .i64 _) rfl) H rfl ?_
          refine WG_takeG (i := 10) (listed' := [true, true, true, true, true, true, true, true, true, true, true, false, false, false, false]) rfl (by kernel_rfl) rfl rfl rfl (fun w H => x_indexAddr (s := 1) Try.underlying23 (by kernel_rfl) rfl rfl (by omega) (by omega) (by first | rfl | assumption | exact H.rsomen .zero (by omega) | exact H.rsomen (.succ .zero) (by omega) | exact H.rsomen (.succ (.succ .zero)) (by omega) | exact H.osomen .zero (by omega) | exact H.osomen (.succ .zero) (by omega) | exact H.osomen (.succ (.succ .zero)) (by omega)) rfl) H rfl ?_
          first | refine WG_takeG (i := 11) (listed' := [true, true, true, true, true, true, true, true, true, true, true, true, false, false, false]) rfl (by kernel_rfl) rfl rfl rfl (fun w H => x_load (v := .int .i32 _) Try.underlying21 rfl rfl (H.cellAt .zero rfl)) H rfl ?_ | refine WG_takeG (i := 11) (listed' := [true, true, true, true, true, true, true, true, true, true, true, true, false, false, false]) rfl (by kernel_rfl) rfl rfl rfl (fun w H => x_load (v := .int .i32 _) Try.underlying21 rfl rfl (H.cellAt (.succ .zero) rfl)) H rfl ?_ | refine WG_takeG (i := 11) (listed' := [true, true, true, true, true, true, true, true, true, true, true, true, false, false, false]) rfl (by kernel_rfl) rfl rfl rfl (fun w H => x_load (v := .int .i32 _) Try.underlying21 rfl rfl (H.cellAt (.succ (.succ .zero)) rfl)) H rfl ?_ | refine WG_takeG (i := 11) (listed' := [true, true, true, true, true, true, true, true, true, true, true, true, false, false, false]) rfl (by kernel_rfl) rfl rfl rfl (fun w H => x_load (v := .int .i32 _) Try.underlying21 rfl rfl (H.cellAt (.succ (.succ (.succ .zero))) rfl)) H rfl ?_ | refine WG_takeG (i := 11) (listed' := [true, true, true, true, true, true, true, true, true, true, true, true, false, false, false]) rfl (by kernel_rfl) rfl rfl rfl (fun w H => x_load (v := .int .i32 _) Try.underlying21 rfl rfl (H.cellAt (.succ (.succ (.succ (.succ .zero)))) rfl)) H rfl ?_ | refine WG_takeG (i := 11) (listed' := [true, true, true, true, true, true, true, true, true, true, true, true, false, false, false]) rfl (by kernel_rfl) rfl rfl rfl (fun w H => x_load Try.underlying21 rfl rfl (H.rnum .zero (by omega) (by omega))) H rfl ?_ | refine WG_takeG (i := 11) (listed' := [true, true, true, true, true, true, true, true, true, true, true, true, false, false, false]) rfl (by kernel_rfl) rfl rfl rfl (fun w H => x_load Try.underlying21 rfl rfl (H.rnum (.succ .zero) (by omega) (by omega))) H rfl ?_ | refine WG_takeG (i := 11) (listed' := [true, true, true, true, true, true, true, true, true, true, true, true, false, false, false]) rfl (by kernel_rfl) rfl rfl rfl (fun w H => x_load Try.underlying21 rfl rfl (H.rnum (.succ (.succ .zero)) (by omega) (by omega))) H rfl ?_ | refine WG_takeG (i := 11) (listed' := [true, true, true, true, true, true, true, true, true, true, true, true, false, false, false]) rfl (by kernel_rfl) rfl rfl rfl (fun w H => x_load Try.underlying21 rfl rfl (H.onum .zero (by omega) (by omega))) H rfl ?_ | refine WG_takeG (i := 11) (listed' := [true, true, true, true, true, true, true, true, true, true, true, true, false, false, false]) rfl (by kernel_rfl) rfl rfl rfl (fun w H => x_load Try.underlying21 rfl rfl (H.onum (.succ .zero) (by omega) (by omega))) H rfl ?_ | refine WG_takeG (i := 11) (listed' := [true, true, true, true, true, true, true, true, true, true, true, true, false, false, false]) rfl (by kernel_rfl) rfl rfl rfl (fun w H => x_load Try.underlying21 rfl rfl (H.onum (.succ (.succ .zero)) (by omega) (by omega))) H rfl ?_
          refine WG_midG (i := 12) (listed' := [true, true, true, true, true, true, true, true, true, true, true, true, true, false, false]) rfl rfl rfl rfl rfl (by kernel_rfl) rfl rfl ?_
          refine WL_guard_yes rfl rfl rfl ?_
          refine WL_call (vs := [.int .i32 _, .int .i32 _]) Try.func23 rfl rfl rfl (less_i32 _ _ _) ?_
          rintro _ w ⟨rfl, hf⟩
          refine ⟨_, rfl, ?_⟩
          replace H := H.quiet hf
          refine WL_nil ?_
          refine mid_mk H ?_
          refine WG_takeG (i := 13) (listed' := [true, true, true, true, true, true, true, true, true, true, true, true, true, true, false]) rfl (by kernel_rfl) rfl rfl rfl (fun w H => x_not rfl) H rfl ?_
          refine WG_take (i := 14) (listed' := [true, true, true, true, true, true, true, true, true, true, true, true, true, true, true]) rfl (by kernel_rfl) (fun w H => x_pick (v := .bool _) rfl rfl) H rfl ?_
          refine WG_done (by kernel_rfl) ?_
          refine thenE_normal ?_
          refine WC_ifn rfl (fun h60 => ?_) (fun h60 => ?_)
          · have hK := scanDown_go (p := (fun x => !Go.Sort.ltInt x M[a]!)) (d := M) (i := i) (j := j) (by omega) (by exact lt_nyes h60 (by omega) (by omega))
            refine WC_skip ?_
            refine thenE_normal ?_
            refine WC_block ?_
            refine WC_region ?_
            refine WL_x (x_move (v := .int .i64 _) rfl) ?_
            refine WL_x (x_binop rfl rfl (r_sub_in (i64_in (by omega) (by omega)))) ?_
            refine WL_x (x_assign (v := .int .i64 _) rfl) ?_
            refine WL_nil ?_
            refine inBlockE_normal ?_
            refine thenE_normal ?_
            exact ⟨j, ⟨by rw [← hI, hK], by omega, by omega, (congrArg (Value.int .i64) (by first | omega | rfl | (simp only; omega))), rfl, rfl, rfl, H⟩, by omega⟩
          · have hK := scanDown_end (p := (fun x => !Go.Sort.ltInt x M[a]!)) (d := M) (i := i) (j := j + 1) (by omega) (.inr (by exact lt_nno h60 (by omega) (by omega)))
            refine WC_exit ?_
            refine thenE_exit ?_
            refine thenE_exit ?_
            refine inBlockE_exit ?_
            refine thenE_normal ?_
            first
              | exact ⟨j, by rw [← hI, hK], by omega, by omega, rfl, rfl, rfl, rfl, H⟩
              | exact ⟨j + 1, by rw [← hI, hK], by omega, by omega, rfl, rfl, rfl, rfl, H⟩
        · have hK := scanDown_end (p := (fun x => !Go.Sort.ltInt x M[a]!)) (d := M) (i := i) (j := j) (by omega) (.inl (by omega))
          refine WG_skip (i := 4) (listed' := [true, true, true, true, true, false, false, false, false, false, false, false, false, false, false]) rfl (by kernel_rfl) rfl rfl rfl H rfl ?_
          refine WG_skip (i := 5) (listed' := [true, true, true, true, true, true, false, false, false, false, false, false, false, false, false]) rfl (by kernel_rfl) rfl rfl rfl H rfl ?_
          refine WG_skip (i := 6) (listed' := [true, true, true, true, true, true, true, false, false, false, false, false, false, false, false]) rfl (by kernel_rfl) rfl rfl rfl H rfl ?_
          refine WG_skip (i := 7) (listed' := [true, true, true, true, true, true, true, true, false, false, false, false, false, false, false]) rfl (by kernel_rfl) rfl rfl rfl H rfl ?_
          refine WG_skip (i := 8) (listed' := [true, true, true, true, true, true, true, true, true, false, false, false, false, false, false]) rfl (by kernel_rfl) rfl rfl rfl H rfl ?_
          refine WG_skip (i := 9) (listed' := [true, true, true, true, true, true, true, true, true, true, false, false, false, false, false]) rfl (by kernel_rfl) rfl rfl rfl H rfl ?_
          refine WG_skip (i := 10) (listed' := [true, true, true, true, true, true, true, true, true, true, true, false, false, false, false]) rfl (by kernel_rfl) rfl rfl rfl H rfl ?_
          refine WG_skip (i := 11) (listed' := [true, true, true, true, true, true, true, true, true, true, true, true, false, false, false]) rfl (by kernel_rfl) rfl rfl rfl H rfl ?_
          refine WG_skip (i := 12) (listed' := [true, true, true, true, true, true, true, true, true, true, true, true, true, false, false]) rfl (by kernel_rfl) rfl rfl rfl H rfl ?_
          refine WG_skip (i := 13) (listed' := [true, true, true, true, true, true, true, true, true, true, true, true, true, true, false]) rfl (by kernel_rfl) rfl rfl rfl H rfl ?_
          refine WG_take (i := 14) (listed' := [true, true, true, true, true, true, true, true, true, true, true, true, true, true, true]) rfl (by kernel_rfl) (fun w H => x_pick (v := .bool _) rfl rfl) H rfl ?_
          refine WG_done (by kernel_rfl) ?_
          refine thenE_normal ?_
          refine WC_no rfl ?_
          refine WC_exit ?_
          refine thenE_exit ?_
          refine thenE_exit ?_
          refine inBlockE_exit ?_
          refine thenE_normal ?_
          first
            | exact ⟨j, by rw [← hI, hK], by omega, by omega, rfl, rfl, rfl, rfl, H⟩
            | exact ⟨j + 1, by rw [← hI, hK], by omega, by omega, rfl, rfl, rfl, rfl, H⟩
    · clear H
      rintro j f w ⟨hj, hj1, hj2, hfj, hfi, h0, h1, H⟩
      rw [← upd_self hfi, ← upd_self hfj, ← upd_self h0, ← upd_self h1]
      refine WC_seq ?_
      refine WC_seq ?_
      refine WC_region ?_
      refine WL_x (x_move (v := .int .i64 _) rfl) ?_
      refine WL_x (x_move (v := .int .i64 _) rfl) ?_
      refine WL_x (x_binop rfl rfl (r_gtr _ _ _ _)) ?_
      refine WL_nil ?_
      refine thenE_normal ?_
      refine WC_ifd rfl (fun h65 => ?_) (fun h65 => ?_)
      · have hR := part_one (b := b) hMe hi hj (by omega)
        refine WC_seq ?_
        refine WC_drawT (m := 16) (listed := [false, false, false, false, false, false, false, false, false, false, false, false, false, false, false, false]) (by kernel_rfl) rfl rfl H ?_
        intro w H
        refine WG_take (i := 2) (listed' := [false, false, true, false, false, false, false, false, false, false, false, false, false, false, false, false]) rfl (by kernel_rfl) (fun w _ => x_move (v := .slice _ _ _) rfl) trivial rfl ?_
        refine WG_take (i := 3) (listed' := [false, false, true, true, false, false, false, false, false, false, false, false, false, false, false, false]) rfl (by kernel_rfl) (fun w _ => x_move (v := .int .i64 _) rfl) trivial rfl ?_
        refine WG_true (S := fun w => St W (row A c 21 1 n (nums .i32 d.toList)).fp [row A c 21 1 n (nums .i32 M.toList)] [] w) (n := 13) rfl ?_
        refine WG_take (i := 0) (listed' := [true, false, true, true, false, false, false, false, false, false, false, false, false, false, false, false]) rfl (by kernel_rfl) (fun w H => x_move (v := .slice _ _ _) rfl) H rfl ?_
        refine WG_take (i := 1) (listed' := [true, true, true, true, false, false, false, false, false, false, false, false, false, false, false, false]) rfl (by kernel_rfl) (fun w H => x_move (v := .int .i64 _) rfl) H rfl ?_
        refine WG_take (i := 4) (listed' := [true, true, true, true, true, false, false, false, false, false, false, false, false, false, false, false]) rfl (by kernel_rfl) (fun w H => x_move (v := .slice _ _ _) rfl) H rfl ?_
        refine WG_take (i := 5) (listed' := [true, true, true, true, true, true, false, false, false, false, false, false, false, false, false, false]) rfl (by kernel_rfl) (fun w H => x_move (v := .int .i64 _) rfl) H rfl ?_
        refine WG_take (i := 6) (listed' := [true, true, true, true, true, true, true, false, false, false, false, false, false, false, false, false]) rfl (by kernel_rfl) (fun w H => x_indexAddr (s := 1) Try.underlying23 (by kernel_rfl) rfl rfl (by omega) (by omega) (by first | rfl | assumption | exact H.rsomen .zero (by omega) | exact H.rsomen (.succ .zero) (by omega) | exact H.rsomen (.succ (.succ .zero)) (by omega) | exact H.osomen .zero (by omega) | exact H.osomen (.succ .zero) (by omega) | exact H.osomen (.succ (.succ .zero)) (by omega)) rfl) H rfl ?_
        first | refine WG_take (i := 7) (listed' := [true, true, true, true, true, true, true, true, false, false, false, false, false, false, false, false]) rfl (by kernel_rfl) (fun w H => x_load (v := .int .i32 _) Try.underlying21 rfl rfl (H.cellAt .zero rfl)) H rfl ?_ | refine WG_take (i := 7) (listed' := [true, true, true, true, true, true, true, true, false, false, false, false, false, false, false, false]) rfl (by kernel_rfl) (fun w H => x_load (v := .int .i32 _) Try.underlying21 rfl rfl (H.cellAt (.succ .zero) rfl)) H rfl ?_ | refine WG_take (i := 7) (listed' := [true, true, true, true, true, true, true, true, false, false, false, false, false, false, false, false]) rfl (by kernel_rfl) (fun w H => x_load (v := .int .i32 _) Try.underlying21 rfl rfl (H.cellAt (.succ (.succ .zero)) rfl)) H rfl ?_ | refine WG_take (i := 7) (listed' := [true, true, true, true, true, true, true, true, false, false, false, false, false, false, false, false]) rfl (by kernel_rfl) (fun w H => x_load (v := .int .i32 _) Try.underlying21 rfl rfl (H.cellAt (.succ (.succ (.succ .zero))) rfl)) H rfl ?_ | refine WG_take (i := 7) (listed' := [true, true, true, true, true, true, true, true, false, false, false, false, false, false, false, false]) rfl (by kernel_rfl) (fun w H => x_load (v := .int .i32 _) Try.underlying21 rfl rfl (H.cellAt (.succ (.succ (.succ (.succ .zero)))) rfl)) H rfl ?_ | refine WG_take (i := 7) (listed' := [true, true, true, true, true, true, true, true, false, false, false, false, false, false, false, false]) rfl (by kernel_rfl) (fun w H => x_load Try.underlying21 rfl rfl (H.rnum .zero (by omega) (by omega))) H rfl ?_ | refine WG_take (i := 7) (listed' := [true, true, true, true, true, true, true, true, false, false, false, false, false, false, false, false]) rfl (by kernel_rfl) (fun w H => x_load Try.underlying21 rfl rfl (H.rnum (.succ .zero) (by omega) (by omega))) H rfl ?_ | refine WG_take (i := 7) (listed' := [true, true, true, true, true, true, true, true, false, false, false, false, false, false, false, false]) rfl (by kernel_rfl) (fun w H => x_load Try.underlying21 rfl rfl (H.rnum (.succ (.succ .zero)) (by omega) (by omega))) H rfl ?_ | refine WG_take (i := 7) (listed' := [true, true, true, true, true, true, true, true, false, false, false, false, false, false, false, false]) rfl (by kernel_rfl) (fun w H => x_load Try.underlying21 rfl rfl (H.onum .zero (by omega) (by omega))) H rfl ?_ | refine WG_take (i := 7) (listed' := [true, true, true, true, true, true, true, true, false, false, false, false, false, false, false, false]) rfl (by kernel_rfl) (fun w H => x_load Try.underlying21 rfl rfl (H.onum (.succ .zero) (by omega) (by omega))) H rfl ?_ | refine WG_take (i := 7) (listed' := [true, true, true, true, true, true, true, true, false, false, false, false, false, false, false, false]) rfl (by kernel_rfl) (fun w H => x_load Try.underlying21 rfl rfl (H.onum (.succ (.succ .zero)) (by omega) (by omega))) H rfl ?_
        refine WG_take (i := 8) (listed' := [true, true, true, true, true, true, true, true, true, false, false, false, false, false, false, false]) rfl (by kernel_rfl) (fun w H => x_move (v := .slice _ _ _) rfl) H rfl ?_
        refine WG_take (i := 9) (listed' := [true, true, true, true, true, true, true, true, true, true, false, false, false, false, false, false]) rfl (by kernel_rfl) (fun w H => x_move (v := .int .i64 _) rfl) H rfl ?_
        refine WG_take (i := 10) (listed' := [true, true, true, true, true, true, true, true, true, true, true, false, false, false, false, false]) rfl (by kernel_rfl) (fun w H => x_indexAddr (s := 1) Try.underlying23 (by kernel_rfl) rfl rfl (by omega) (by omega) (by first | rfl | assumption | exact H.rsomen .zero (by omega) | exact H.rsomen (.succ .zero) (by omega) | exact H.rsomen (.succ (.succ .zero)) (by omega) | exact H.osomen .zero (by omega) | exact H.osomen (.succ .zero) (by omega) | exact H.osomen (.succ (.succ .zero)) (by omega)) rfl) H rfl ?_
        first | refine WG_take (i := 11) (listed' := [true, true, true, true, true, true, true, true, true, true, true, true, false, false, false, false]) rfl (by kernel_rfl) (fun w H => x_load (v := .int .i32 _) Try.underlying21 rfl rfl (H.cellAt .zero rfl)) H rfl ?_ | refine WG_take (i := 11) (listed' := [true, true, true, true, true, true, true, true, true, true, true, true, false, false, false, false]) rfl (by kernel_rfl) (fun w H => x_load (v := .int .i32 _) Try.underlying21 rfl rfl (H.cellAt (.succ .zero) rfl)) H rfl ?_ | refine WG_take (i := 11) (listed' := [true, true, true, true, true, true, true, true, true, true, true, true, false, false, false, false]) rfl (by kernel_rfl) (fun w H => x_load (v := .int .i32 _) Try.underlying21 rfl rfl (H.cellAt (.succ (.succ .zero)) rfl)) H rfl ?_ | refine WG_take (i := 11) (listed' := [true, true, true, true, true, true, true, true, true, true, true, true, false, false, false, false]) rfl (by kernel_rfl) (fun w H => x_load (v := .int .i32 _) Try.underlying21 rfl rfl (H.cellAt (.succ (.succ (.succ .zero))) rfl)) H rfl ?_ | refine WG_take (i := 11) (listed' := [true, true, true, true, true, true, true, true, true, true, true, true, false, false, false, false]) rfl (by kernel_rfl) (fun w H => x_load (v := .int .i32 _) Try.underlying21 rfl rfl (H.cellAt (.succ (.succ (.succ (.succ .zero)))) rfl)) H rfl ?_ | refine WG_take (i := 11) (listed' := [true, true, true, true, true, true, true, true, true, true, true, true, false, false, false, false]) rfl (by kernel_rfl) (fun w H => x_load Try.underlying21 rfl rfl (H.rnum .zero (by omega) (by omega))) H rfl ?_ | refine WG_take (i := 11) (listed' := [true, true, true, true, true, true, true, true, true, true, true, true, false, false, false, false]) rfl (by kernel_rfl) (fun w H => x_load Try.underlying21 rfl rfl (H.rnum (.succ .zero) (by omega) (by omega))) H rfl ?_ | refine WG_take (i := 11) (listed' := [true, true, true, true, true, true, true, true, true, true, true, true, false, false, false, false]) rfl (by kernel_rfl) (fun w H => x_load Try.underlying21 rfl rfl (H.rnum (.succ (.succ .zero)) (by omega) (by omega))) H rfl ?_ | refine WG_take (i := 11) (listed' := [true, true, true, true, true, true, true, true, true, true, true, true, false, false, false, false]) rfl (by kernel_rfl) (fun w H => x_load Try.underlying21 rfl rfl (H.onum .zero (by omega) (by omega))) H rfl ?_ | refine WG_take (i := 11) (listed' := [true, true, true, true, true, true, true, true, true, true, true, true, false, false, false, false]) rfl (by kernel_rfl) (fun w H => x_load Try.underlying21 rfl rfl (H.onum (.succ .zero) (by omega) (by omega))) H rfl ?_ | refine WG_take (i := 11) (listed' := [true, true, true, true, true, true, true, true, true, true, true, true, false, false, false, false]) rfl (by kernel_rfl) (fun w H => x_load Try.underlying21 rfl rfl (H.onum (.succ (.succ .zero)) (by omega) (by omega))) H rfl ?_
        refine WG_take (i := 12) (listed' := [true, true, true, true, true, true, true, true, true, true, true, true, true, false, false, false]) rfl (by kernel_rfl) (fun w H => x_indexAddr (s := 1) Try.underlying23 (by kernel_rfl) rfl rfl (by omega) (by omega) (by first | rfl | assumption | exact H.rsomen .zero (by omega) | exact H.rsomen (.succ .zero) (by omega) | exact H.rsomen (.succ (.succ .zero)) (by omega) | exact H.osomen .zero (by omega) | exact H.osomen (.succ .zero) (by omega) | exact H.osomen (.succ (.succ .zero)) (by omega)) rfl) H rfl ?_
        refine WG_next (fun w => St W (row A c 21 1 n (nums .i32 d.toList)).fp [row A c 21 1 n (nums .i32 (M.setIfInBounds j M[a]!).toList)] [] w) 15 (listed' := [true, true, true, true, true, true, true, true, true, true, true, true, true, true, false, false]) rfl rfl (by kernel_rfl) rfl ?_
        refine WL_storeR (v := .int .i32 _) (o := j) (n := n) (xs := nums .i32 M.toList) (xs' := nums .i32 (M.setIfInBounds j M[a]!).toList) Try.underlying21 rfl rfl rfl rfl (by kernel_rfl) (by omega) H .zero (by rw [nums_length]; omega) (nums_setA _ _ _ (nth_at (by omega))) ?_
        clear H; intro w H
        refine WL_nil ?_
        refine nx_mk ?_
        refine WG_take (i := 14) (listed' := [true, true, true, true, true, true, true, true, true, true, true, true, true, true, true, false]) rfl (by kernel_rfl) (fun w H => x_indexAddr (s := 1) Try.underlying23 (by kernel_rfl) rfl rfl (by omega) (by omega) (H.osomen .zero (by rw [len_setA]; omega)) rfl) H rfl ?_
        refine WG_fin (listed' := [true, true, true, true, true, true, true, true, true, true, true, true, true, true, true, true]) rfl rfl (by kernel_rfl) rfl (by kernel_rfl) ?_
        refine WL_storeR (v := .int .i32 _) (o := a) (n := n) (xs := nums .i32 (M.setIfInBounds j M[a]!).toList) (xs' := nums .i32 (Go.Sort.swp M j a).toList) Try.underlying21 rfl rfl rfl rfl (by kernel_rfl) (by omega) H .zero (by rw [nums_length, len_setA]; omega) (nums_setA _ _ _ (nth_at (by omega))) ?_
        clear H; intro w H
        have hM2 : (Go.Sort.swp M j a).toList.length = n := by rw [len_swp]; exact hM
        refine WL_nil ?_
        refine fin_mk ?_
        refine thenE_normal ?_
        refine WC_seq ?_
        refine WC_region ?_
        refine WL_x (x_move (v := .int .i64 _) rfl) ?_
        refine WL_x (x_assign (v := .int .i64 _) rfl) ?_
        refine WL_x (x_assign (v := (.bool true)) rfl) ?_
        refine WL_nil ?_
        refine thenE_normal ?_
        refine WC_ret ?_
        refine thenE_ret ?_
        refine ends2 (v1 := .int .i64 _) (v2 := .bool _) Try.results25 rfl rfl ?_
        first
          | (rw [hR]; exact ⟨_, _, _, rfl, rfl, H.fr, H.ok _ List.mem_cons_self⟩)
      · refine WC_skip ?_
        refine thenE_normal ?_
        refine WC_seq ?_
        obtain ⟨i0, rfl⟩ : ∃ i0, i0 = i := ⟨i, rfl⟩
        obtain ⟨j0, rfl⟩ : ∃ j0, j0 = j := ⟨j, rfl⟩
        have hi0 := hi
        have hj0 := hj
        refine WC_drawT (m := 16) (listed := [false, false, false, false, false, false, false, false, false, false, false, false, false, false, false, false]) (by kernel_rfl) rfl rfl H ?_
        intro w H
        refine WG_take (i := 2) (listed' := [false, false, true, false, false, false, false, false, false, false, false, false, false, false, false, false]) rfl (by kernel_rfl) (fun w _ => x_move (v := .slice _ _ _) rfl) trivial rfl ?_
        refine WG_take (i := 3) (listed' := [false, false, true, true, false, false, false, false, false, false, false, false, false, false, false, false]) rfl (by kernel_rfl) (fun w _ => x_move (v := .int .i64 _) rfl) trivial rfl ?_
        refine WG_true (S := fun w => St W (row A c 21 1 n (nums .i32 d.toList)).fp [row A c 21 1 n (nums .i32 M.toList)] [] w) (n := 13) rfl ?_
        refine WG_take (i := 0) (listed' := [true, false, true, true, false, false, false, false, false, false, false, false, false, false, false, false]) rfl (by kernel_rfl) (fun w H => x_move (v := .slice _ _ _) rfl) H rfl ?_
        refine WG_take (i := 1) (listed' := [true, true, true, true, false, false, false, false, false, false, false, false, false, false, false, false]) rfl (by kernel_rfl) (fun w H => x_move (v := .int .i64 _) rfl) H rfl ?_
        refine WG_take (i := 4) (listed' := [true, true, true, true, true, false, false, false, false, false, false, false, false, false, false, false]) rfl (by kernel_rfl) (fun w H => x_move (v := .slice _ _ _) rfl) H rfl ?_
        refine WG_take (i := 5) (listed' := [true, true, true, true, true, true, false, false, false, false, false, false, false, false, false, false]) rfl (by kernel_rfl) (fun w H => x_move (v := .int .i64 _) rfl) H rfl ?_
        refine WG_take (i := 6) (listed' := [true, true, true, true, true, true, true, false, false, false, false, false, false, false, false, false]) rfl (by kernel_rfl) (fun w H => x_indexAddr (s := 1) Try.underlying23 (by kernel_rfl) rfl rfl (by omega) (by omega) (by first | rfl | assumption | exact H.rsomen .zero (by omega) | exact H.rsomen (.succ .zero) (by omega) | exact H.rsomen (.succ (.succ .zero)) (by omega) | exact H.osomen .zero (by omega) | exact H.osomen (.succ .zero) (by omega) | exact H.osomen (.succ (.succ .zero)) (by omega)) rfl) H rfl ?_
        first | refine WG_take (i := 7) (listed' := [true, true, true, true, true, true, true, true, false, false, false, false, false, false, false, false]) rfl (by kernel_rfl) (fun w H => x_load (v := .int .i32 _) Try.underlying21 rfl rfl (H.cellAt .zero rfl)) H rfl ?_ | refine WG_take (i := 7) (listed' := [true, true, true, true, true, true, true, true, false, false, false, false, false, false, false, false]) rfl (by kernel_rfl) (fun w H => x_load (v := .int .i32 _) Try.underlying21 rfl rfl (H.cellAt (.succ .zero) rfl)) H rfl ?_ | refine WG_take (i := 7) (listed' := [true, true, true, true, true, true, true, true, false, false, false, false, false, false, false, false]) rfl (by kernel_rfl) (fun w H => x_load (v := .int .i32 _) Try.underlying21 rfl rfl (H.cellAt (.succ (.succ .zero)) rfl)) H rfl ?_ | refine WG_take (i := 7) (listed' := [true, true, true, true, true, true, true, true, false, false, false, false, false, false, false, false]) rfl (by kernel_rfl) (fun w H => x_load (v := .int .i32 _) Try.underlying21 rfl rfl (H.cellAt (.succ (.succ (.succ .zero))) rfl)) H rfl ?_ | refine WG_take (i := 7) (listed' := [true, true, true, true, true, true, true, true, false, false, false, false, false, false, false, false]) rfl (by kernel_rfl) (fun w H => x_load (v := .int .i32 _) Try.underlying21 rfl rfl (H.cellAt (.succ (.succ (.succ (.succ .zero)))) rfl)) H rfl ?_ | refine WG_take (i := 7) (listed' := [true, true, true, true, true, true, true, true, false, false, false, false, false, false, false, false]) rfl (by kernel_rfl) (fun w H => x_load Try.underlying21 rfl rfl (H.rnum .zero (by omega) (by omega))) H rfl ?_ | refine WG_take (i := 7) (listed' := [true, true, true, true, true, true, true, true, false, false, false, false, false, false, false, false]) rfl (by kernel_rfl) (fun w H => x_load Try.underlying21 rfl rfl (H.rnum (.succ .zero) (by omega) (by omega))) H rfl ?_ | refine WG_take (i := 7) (listed' := [true, true, true, true, true, true, true, true, false, false, false, false, false, false, false, false]) rfl (by kernel_rfl) (fun w H => x_load Try.underlying21 rfl rfl (H.rnum (.succ (.succ .zero)) (by omega) (by omega))) H rfl ?_ | refine WG_take (i := 7) (listed' := [true, true, true, true, true, true, true, true, false, false, false, false, false, false, false, false]) rfl (by kernel_rfl) (fun w H => x_load Try.underlying21 rfl rfl (H.onum .zero (by omega) (by omega))) H rfl ?_ | refine WG_take (i := 7) (listed' := [true, true, true, true, true, true, true, true, false, false, false, false, false, false, false, false]) rfl (by kernel_rfl) (fun w H => x_load Try.underlying21 rfl rfl (H.onum (.succ .zero) (by omega) (by omega))) H rfl ?_ | refine WG_take (i := 7) (listed' := [true, true, true, true, true, true, true, true, false, false, false, false, false, false, false, false]) rfl (by kernel_rfl) (fun w H => x_load Try.underlying21 rfl rfl (H.onum (.succ (.succ .zero)) (by omega) (by omega))) H rfl ?_
        refine WG_take (i := 8) (listed' := [true, true, true, true, true, true, true, true, true, false, false, false, false, false, false, false]) rfl (by kernel_rfl) (fun w H => x_move (v := .slice _ _ _) rfl) H rfl ?_
        refine WG_take (i := 9) (listed' := [true, true, true, true, true, true, true, true, true, true, false, false, false, false, false, false]) rfl (by kernel_rfl) (fun w H => x_move (v := .int .i64 _) rfl) H rfl ?_
        refine WG_take (i := 10) (listed' := [true, true, true, true, true, true, true, true, true, true, true, false, false, false, false, false]) rfl (by kernel_rfl) (fun w H => x_indexAddr (s := 1) Try.underlying23 (by kernel_rfl) rfl rfl (by omega) (by omega) (by first | rfl | assumption | exact H.rsomen .zero (by omega) | exact H.rsomen (.succ .zero) (by omega) | exact H.rsomen (.succ (.succ .zero)) (by omega) | exact H.osomen .zero (by omega) | exact H.osomen (.succ .zero) (by omega) | exact H.osomen (.succ (.succ .zero)) (by omega)) rfl) H rfl ?_
        first | refine WG_take (i := 11) (listed' := [true, true, true, true, true, true, true, true, true, true, true, true, false, false, false, false]) rfl (by kernel_rfl) (fun w H => x_load (v := .int .i32 _) Try.underlying21 rfl rfl (H.cellAt .zero rfl)) H rfl ?_ | refine WG_take (i := 11) (listed' := [true, true, true, true, true, true, true, true, true, true, true, true, false, false, false, false]) rfl (by kernel_rfl) (fun w H => x_load (v := .int .i32 _) Try.underlying21 rfl rfl (H.cellAt (.succ .zero) rfl)) H rfl ?_ | refine WG_take (i := 11) (listed' := [true, true, true, true, true, true, true, true, true, true, true, true, false, false, false, false]) rfl (by kernel_rfl) (fun w H => x_load (v := .int .i32 _) Try.underlying21 rfl rfl (H.cellAt (.succ (.succ .zero)) rfl)) H rfl ?_ | refine WG_take (i := 11) (listed' := [true, true, true, true, true, true, true, true, true, true, true, true, false, false, false, false]) rfl (by kernel_rfl) (fun w H => x_load (v := .int .i32 _) Try.underlying21 rfl rfl (H.cellAt (.succ (.succ (.succ .zero))) rfl)) H rfl ?_ | refine WG_take (i := 11) (listed' := [true, true, true, true, true, true, true, true, true, true, true, true, false, false, false, false]) rfl (by kernel_rfl) (fun w H => x_load (v := .int .i32 _) Try.underlying21 rfl rfl (H.cellAt (.succ (.succ (.succ (.succ .zero)))) rfl)) H rfl ?_ | refine WG_take (i := 11) (listed' := [true, true, true, true, true, true, true, true, true, true, true, true, false, false, false, false]) rfl (by kernel_rfl) (fun w H => x_load Try.underlying21 rfl rfl (H.rnum .zero (by omega) (by omega))) H rfl ?_ | refine WG_take (i := 11) (listed' := [true, true, true, true, true, true, true, true, true, true, true, true, false, false, false, false]) rfl (by kernel_rfl) (fun w H => x_load Try.underlying21 rfl rfl (H.rnum (.succ .zero) (by omega) (by omega))) H rfl ?_ | refine WG_take (i := 11) (listed' := [true, true, true, true, true, true, true, true, true, true, true, true, false, false, false, false]) rfl (by kernel_rfl) (fun w H => x_load Try.underlying21 rfl rfl (H.rnum (.succ (.succ .zero)) (by omega) (by omega))) H rfl ?_ | refine WG_take (i := 11) (listed' := [true, true, true, true, true, true, true, true, true, true, true, true, false, false, false, false]) rfl (by kernel_rfl) (fun w H => x_load Try.underlying21 rfl rfl (H.onum .zero (by omega) (by omega))) H rfl ?_ | refine WG_take (i := 11) (listed' := [true, true, true, true, true, true, true, true, true, true, true, true, false, false, false, false]) rfl (by kernel_rfl) (fun w H => x_load Try.underlying21 rfl rfl (H.onum (.succ .zero) (by omega) (by omega))) H rfl ?_ | refine WG_take (i := 11) (listed' := [true, true, true, true, true, true, true, true, true, true, true, true, false, false, false, false]) rfl (by kernel_rfl) (fun w H => x_load Try.underlying21 rfl rfl (H.onum (.succ (.succ .zero)) (by omega) (by omega))) H rfl ?_
        refine WG_take (i := 12) (listed' := [true, true, true, true, true, true, true, true, true, true, true, true, true, false, false, false]) rfl (by kernel_rfl) (fun w H => x_indexAddr (s := 1) Try.underlying23 (by kernel_rfl) rfl rfl (by omega) (by omega) (by first | rfl | assumption | exact H.rsomen .zero (by omega) | exact H.rsomen (.succ .zero) (by omega) | exact H.rsomen (.succ (.succ .zero)) (by omega) | exact H.osomen .zero (by omega) | exact H.osomen (.succ .zero) (by omega) | exact H.osomen (.succ (.succ .zero)) (by omega)) rfl) H rfl ?_
        refine WG_next (fun w => St W (row A c 21 1 n (nums .i32 d.toList)).fp [row A c 21 1 n (nums .i32 (M.setIfInBounds i0 M[j0]!).toList)] [] w) 15 (listed' := [true, true, true, true, true, true, true, true, true, true, true, true, true, true, false, false]) rfl rfl (by kernel_rfl) rfl ?_
        refine WL_storeR (v := .int .i32 _) (o := i0) (n := n) (xs := nums .i32 M.toList) (xs' := nums .i32 (M.setIfInBounds i0 M[j0]!).toList) Try.underlying21 rfl rfl rfl rfl (by kernel_rfl) (by omega) H .zero (by rw [nums_length]; omega) (nums_setA _ _ _ (nth_at (by omega))) ?_
        clear H; intro w H
        refine WL_nil ?_
        refine nx_mk ?_
        refine WG_take (i := 14) (listed' := [true, true, true, true, true, true, true, true, true, true, true, true, true, true, true, false]) rfl (by kernel_rfl) (fun w H => x_indexAddr (s := 1) Try.underlying23 (by kernel_rfl) rfl rfl (by omega) (by omega) (H.osomen .zero (by rw [len_setA]; omega)) rfl) H rfl ?_
        refine WG_fin (listed' := [true, true, true, true, true, true, true, true, true, true, true, true, true, true, true, true]) rfl rfl (by kernel_rfl) rfl (by kernel_rfl) ?_
        refine WL_storeR (v := .int .i32 _) (o := j0) (n := n) (xs := nums .i32 (M.setIfInBounds i0 M[j0]!).toList) (xs' := nums .i32 (Go.Sort.swp M i0 j0).toList) Try.underlying21 rfl rfl rfl rfl (by kernel_rfl) (by omega) H .zero (by rw [nums_length, len_setA]; omega) (nums_setA _ _ _ (nth_at (by omega))) ?_
        clear H; intro w H
        have hM2 : (Go.Sort.swp M i0 j0).toList.length = n := by rw [len_swp]; exact hM
        refine WL_nil ?_
        refine fin_mk ?_
        refine thenE_normal ?_
        refine WC_seq ?_
        refine WC_region ?_
        refine WL_x (x_move (v := .int .i64 _) rfl) ?_
        refine WL_x (x_binop rfl rfl (r_add_in (i64_in (by omega) (by omega)))) ?_
        refine WL_x (x_assign (v := .int .i64 _) rfl) ?_
        refine WL_nil ?_
        refine thenE_normal ?_
        refine WC_seq ?_
        refine WC_region ?_
        refine WL_x (x_move (v := .int .i64 _) rfl) ?_
        refine WL_x (x_binop rfl rfl (r_sub_in (i64_in (by omega) (by omega)))) ?_
        refine WL_x (x_assign (v := .int .i64 _) rfl) ?_
        refine WL_nil ?_
        refine thenE_normal ?_
        refine WC_seq ?_
        refine WC_block ?_
        refine WC_while (fun (s : Nat × Nat × Array Int) f w' => a + 1 ≤ s.1 ∧ s.1 ≤ s.2.1 + 2 ∧ a ≤ s.2.1 ∧ s.2.1 < b ∧ s.2.2.toList.length = n ∧ Go.Sort.partLoop Go.Sort.ltInt a s.1 s.2.1 s.2.2 = Go.Sort.partLoop Go.Sort.ltInt a (i0 + 1) (j0 - 1) (Go.Sort.swp M i0 j0) ∧ f 10 = .int .i64 s.1 ∧ f 11 = .int .i64 s.2.1 ∧ f 0 = .slice A n c ∧ f 1 = .int .i64 a ∧ St W (row A c 21 1 n (nums .i32 d.toList)).fp [row A c 21 1 n (nums .i32 s.2.2.toList)] [] w') (fun s => s.2.1 + 1 - s.1) (s0 := (i0 + 1, j0 - 1, Go.Sort.swp M i0 j0)) ?_ ?_
        · exact ⟨by simp only; omega, by simp only; omega, by simp only; omega, by simp only; omega, hM2, rfl, (congrArg (Value.int .i64) (by first | omega | rfl | (simp only; omega))), (congrArg (Value.int .i64) (by first | omega | rfl | (simp only; omega))), rfl, rfl, H⟩
        · clear H hM2
          have hMm := hM
          clear hM
          rintro ⟨i1, j1, K⟩ f w ⟨hb1, hb2, hb3, hb4, hM, hO, h10, h11, h0, h1, H⟩
          simp only at hb1 hb2 hb3 hb4 hM hO h10 h11 h0 h1 H
          rw [← upd_self h10, ← upd_self h11, ← upd_self h0, ← upd_self h1]
          refine WC_block ?_
          refine WC_cut (fun (i : Nat) f w' => i = Go.Sort.scanUp (fun x => Go.Sort.ltInt x K[a]!) K j1 i1 ∧ i1 ≤ i ∧ i ≤ j1 + 2 ∧ f 10 = .int .i64 i ∧ f 11 = .int .i64 (j1 : Nat) ∧ f 0 = .slice A n c ∧ f 1 = .int .i64 a ∧ St W (row A c 21 1 n (nums .i32 d.toList)).fp [row A c 21 1 n (nums .i32 K.toList)] [] w') ?_ ?_
          · refine WC_block ?_
            refine WC_while (fun (i : Nat) f w' => Go.Sort.scanUp (fun x => Go.Sort.ltInt x K[a]!) K j1 i = Go.Sort.scanUp (fun x => Go.Sort.ltInt x K[a]!) K j1 i1 ∧ i1 ≤ i ∧ i ≤ j1 + 2 ∧ f 10 = .int .i64 i ∧ f 11 = .int .i64 (j1 : Nat) ∧ f 0 = .slice A n c ∧ f 1 = .int .i64 a ∧ St W (row A c 21 1 n (nums .i32 d.toList)).fp [row A c 21 1 n (nums .i32 K.toList)] [] w') (fun i => j1 + 1 - i) (s0 := (i1)) ?_ ?_
            · exact ⟨rfl, Nat.le_refl _, by omega, (congrArg (Value.int .i64) (by first | omega | rfl | (simp only; omega))), (congrArg (Value.int .i64) (by first | omega | rfl | (simp only; omega))), rfl, rfl, H⟩
            · clear H
              rintro i f w ⟨hI, hi1, hi2, hfi, hfj, h0, h1, H⟩
              rw [← upd_self hfi, ← upd_self hfj, ← upd_self h0, ← upd_self h1]
              refine WC_seq ?_
              refine WC_seq ?_
              refine WC_drawH (m := 14) (listed := [false, false, false, false, false, false, false, false, false, false, false, false, false, false]) 14 (by kernel_rfl) rfl rfl H ?_
              intro w H
              refine WG_take (i := 0) (listed' := [true, false, false, false, false, false, false, false, false, false, false, false, false, false]) rfl (by kernel_rfl) (fun w H => x_move (v := .int .i64 _) rfl) H rfl ?_
              refine WG_take (i := 1) (listed' := [true, true, false, false, false, false, false, false, false, false, false, false, false, false]) rfl (by kernel_rfl) (fun w H => x_move (v := .int .i64 _) rfl) H rfl ?_
              refine WG_take (i := 2) (listed' := [true, true, true, false, false, false, false, false, false, false, false, false, false, false]) rfl (by kernel_rfl) (fun w H => x_binop rfl rfl (r_leq _ _ _ _)) H rfl ?_
              refine WG_take (i := 3) (listed' := [true, true, true, true, false, false, false, false, false, false, false, false, false, false]) rfl (by kernel_rfl) (fun w H => x_move (v := .bool _) rfl) H rfl ?_
              first | refine WG_cased (t := 102) rfl (fun h102 => ?_) (fun h102 => ?_) | refine WG_casen (t := 102) rfl (fun h102 => ?_) (fun h102 => ?_) | refine WG_case (t := 102) rfl (fun h102 => ?_) (fun h102 => ?_)
              · refine WG_takeG (i := 4) (listed' := [true, true, true, true, true, false, false, false, false, false, false, false, false, false]) rfl (by kernel_rfl) rfl rfl rfl (fun w H => x_move (v := .slice _ _ _) rfl) H rfl ?_
                refine WG_takeG (i := 5) (listed' := [true, true, true, true, true, true, false, false, false, false, false, false, false, false]) rfl (by kernel_rfl) rfl rfl rfl (fun w H => x_move (v := .int .i64 _) rfl) H rfl ?_
                refine WG_takeG (i := 6) (listed' := [true, true, true, true, true, true, true, false, false, false, false, false, false, false]) rfl (by kernel_rfl) rfl rfl rfl (fun w H => x_indexAddr (s := 1) Try.underlying23 (by kernel_rfl) rfl rfl (by omega) (by omega) (by first | rfl | assumption | exact H.rsomen .zero (by omega) | exact H.rsomen (.succ .zero) (by omega) | exact H.rsomen (.succ (.succ .zero)) (by omega) | exact H.osomen .zero (by omega) | exact H.osomen (.succ .zero) (by omega) | exact H.osomen (.succ (.succ .zero)) (by omega)) rfl) H rfl ?_
                first | refine WG_takeG (i := 7) (listed' := [true, true, true, true, true, true, true, true, false, false, false, false, false, false]) rfl (by kernel_rfl) rfl rfl rfl (fun w H => x_load (v := .int .i32 _) Try.underlying21 rfl rfl (H.cellAt .zero rfl)) H rfl ?_ | refine WG_takeG (i := 7) (listed' := [true, true, true, true, true, true, true, true, false, false, false, false, false, false]) rfl (by kernel_rfl) rfl rfl rfl (fun w H => x_load (v := .int .i32 _) Try.underlying21 rfl rfl (H.cellAt (.succ .zero) rfl)) H rfl ?_ | refine WG_takeG (i := 7) (listed' := [true, true, true, true, true, true, true, true, false, false, false, false, false, false]) rfl (by kernel_rfl) rfl rfl rfl (fun w H => x_load (v := .int .i32 _) Try.underlying21 rfl rfl (H.cellAt (.succ (.succ .zero)) rfl)) H rfl ?_ | refine WG_takeG (i := 7) (listed' := [true, true, true, true, true, true, true, true, false, false, false, false, false, false]) rfl (by kernel_rfl) rfl rfl rfl (fun w H => x_load (v := .int .i32 _) Try.underlying21 rfl rfl (H.cellAt (.succ (.succ (.succ .zero))) rfl)) H rfl ?_ | refine WG_takeG (i := 7) (listed' := [true, true, true, true, true, true, true, true, false, false, false, false, false, false]) rfl (by kernel_rfl) rfl rfl rfl (fun w H => x_load (v := .int .i32 _) Try.underlying21 rfl rfl (H.cellAt (.succ (.succ (.succ (.succ .zero)))) rfl)) H rfl ?_ | refine WG_takeG (i := 7) (listed' := [true, true, true, true, true, true, true, true, false, false, false, false, false, false]) rfl (by kernel_rfl) rfl rfl rfl (fun w H => x_load Try.underlying21 rfl rfl (H.rnum .zero (by omega) (by omega))) H rfl ?_ | refine WG_takeG (i := 7) (listed' := [true, true, true, true, true, true, true, true, false, false, false, false, false, false]) rfl (by kernel_rfl) rfl rfl rfl (fun w H => x_load Try.underlying21 rfl rfl (H.rnum (.succ .zero) (by omega) (by omega))) H rfl ?_ | refine WG_takeG (i := 7) (listed' := [true, true, true, true, true, true, true, true, false, false, false, false, false, false]) rfl (by kernel_rfl) rfl rfl rfl (fun w H => x_load Try.underlying21 rfl rfl (H.rnum (.succ (.succ .zero)) (by omega) (by omega))) H rfl ?_ | refine WG_takeG (i := 7) (listed' := [true, true, true, true, true, true, true, true, false, false, false, false, false, false]) rfl (by kernel_rfl) rfl rfl rfl (fun w H => x_load Try.underlying21 rfl rfl (H.onum .zero (by omega) (by omega))) H rfl ?_ | refine WG_takeG (i := 7) (listed' := [true, true, true, true, true, true, true, true, false, false, false, false, false, false]) rfl (by kernel_rfl) rfl rfl rfl (fun w H => x_load Try.underlying21 rfl rfl (H.onum (.succ .zero) (by omega) (by omega))) H rfl ?_ | refine WG_takeG (i := 7) (listed' := [true, true, true, true, true, true, true, true, false, false, false, false, false, false]) rfl (by kernel_rfl) rfl rfl rfl (fun w H => x_load Try.underlying21 rfl rfl (H.onum (.succ (.succ .zero)) (by omega) (by omega))) H rfl ?_
                refine WG_takeG (i := 8) (listed' := [true, true, true, true, true, true, true, true, true, false, false, false, false, false]) rfl (by kernel_rfl) rfl rfl rfl (fun w H => x_move (v := .slice _ _ _) rfl) H rfl ?_
                refine WG_takeG (i := 9) (listed' := [true, true, true, true, true, true, true, true, true, true, false, false, false, false]) rfl (by kernel_rfl) rfl rfl rfl (fun w H => x_move (v := .int .i64 _) rfl) H rfl ?_
                refine WG_takeG (i := 10) (listed' := [true, true, true, true, true, true, true, true, true, true, true, false, false, false]) rfl (by kernel_rfl) rfl rfl rfl (fun w H => x_indexAddr (s := 1) Try.underlying23 (by kernel_rfl) rfl rfl (by omega) (by omega) (by first | rfl | assumption | exact H.rsomen .zero (by omega) | exact H.rsomen (.succ .zero) (by omega) | exact H.rsomen (.succ (.succ .zero)) (by omega) | exact H.osomen .zero (by omega) | exact H.osomen (.succ .zero) (by omega) | exact H.osomen (.succ (.succ .zero)) (by omega)) rfl) H rfl ?_
                first | refine WG_takeG (i := 11) (listed' := [true, true, true, true, true, true, true, true, true, true, true, true, false, false]) rfl (by kernel_rfl) rfl rfl rfl (fun w H => x_load (v := .int .i32 _) Try.underlying21 rfl rfl (H.cellAt .zero rfl)) H rfl ?_ | refine WG_takeG (i := 11) (listed' := [true, true, true, true, true, true, true, true, true, true, true, true, false, false]) rfl (by kernel_rfl) rfl rfl rfl (fun w H => x_load (v := .int .i32 _) Try.underlying21 rfl rfl (H.cellAt (.succ .zero) rfl)) H rfl ?_ | refine WG_takeG (i := 11) (listed' := [true, true, true, true, true, true, true, true, true, true, true, true, false, false]) rfl (by kernel_rfl) rfl rfl rfl (fun w H => x_load (v := .int .i32 _) Try.underlying21 rfl rfl (H.cellAt (.succ (.succ .zero)) rfl)) H rfl ?_ | refine WG_takeG (i := 11) (listed' := [true, true, true, true, true, true, true, true, true, true, true, true, false, false]) rfl (by kernel_rfl) rfl rfl rfl (fun w H => x_load (v := .int .i32 _) Try.underlying21 rfl rfl (H.cellAt (.succ (.succ (.succ .zero))) rfl)) H rfl ?_ | refine WG_takeG (i := 11) (listed' := [true, true, true, true, true, true, true, true, true, true, true, true, false, false]) rfl (by kernel_rfl) rfl rfl rfl (fun w H => x_load (v := .int .i32 _) Try.underlying21 rfl rfl (H.cellAt (.succ (.succ (.succ (.succ .zero)))) rfl)) H rfl ?_ | refine WG_takeG (i := 11) (listed' := [true, true, true, true, true, true, true, true, true, true, true, true, false, false]) rfl (by kernel_rfl) rfl rfl rfl (fun w H => x_load Try.underlying21 rfl rfl (H.rnum .zero (by omega) (by omega))) H rfl ?_ | refine WG_takeG (i := 11) (listed' := [true, true, true, true, true, true, true, true, true, true, true, true, false, false]) rfl (by kernel_rfl) rfl rfl rfl (fun w H => x_load Try.underlying21 rfl rfl (H.rnum (.succ .zero) (by omega) (by omega))) H rfl ?_ | refine WG_takeG (i := 11) (listed' := [true, true, true, true, true, true, true, true, true, true, true, true, false, false]) rfl (by kernel_rfl) rfl rfl rfl (fun w H => x_load Try.underlying21 rfl rfl (H.rnum (.succ (.succ .zero)) (by omega) (by omega))) H rfl ?_ | refine WG_takeG (i := 11) (listed' := [true, true, true, true, true, true, true, true, true, true, true, true, false, false]) rfl (by kernel_rfl) rfl rfl rfl (fun w H => x_load Try.underlying21 rfl rfl (H.onum .zero (by omega) (by omega))) H rfl ?_ | refine WG_takeG (i := 11) (listed' := [true, true, true, true, true, true, true, true, true, true, true, true, false, false]) rfl (by kernel_rfl) rfl rfl rfl (fun w H => x_load Try.underlying21 rfl rfl (H.onum (.succ .zero) (by omega) (by omega))) H rfl ?_ | refine WG_takeG (i := 11) (listed' := [true, true, true, true, true, true, true, true, true, true, true, true, false, false]) rfl (by kernel_rfl) rfl rfl rfl (fun w H => x_load Try.underlying21 rfl rfl (H.onum (.succ (.succ .zero)) (by omega) (by omega))) H rfl ?_
                refine WG_midG (i := 12) (listed' := [true, true, true, true, true, true, true, true, true, true, true, true, true, false]) rfl rfl rfl rfl rfl (by kernel_rfl) rfl rfl ?_
                refine WL_guard_yes rfl rfl rfl ?_
                refine WL_call (vs := [.int .i32 _, .int .i32 _]) Try.func23 rfl rfl rfl (less_i32 _ _ _) ?_
                rintro _ w ⟨rfl, hf⟩
                refine ⟨_, rfl, ?_⟩
                replace H := H.quiet hf
                refine WL_nil ?_
                refine mid_mk H ?_
                refine WG_take (i := 13) (listed' := [true, true, true, true, true, true, true, true, true, true, true, true, true, true]) rfl (by kernel_rfl) (fun w H => x_pick (v := .bool _) rfl rfl) H rfl ?_
                refine WG_done (by kernel_rfl) ?_
                refine thenE_normal ?_
                refine WC_ifd rfl (fun h112 => ?_) (fun h112 => ?_)
                · have hK := scanUp_go (p := (fun x => Go.Sort.ltInt x K[a]!)) (d := K) (j := j1) (i := i) (by omega) (by exact lt_yes h112 (by omega) (by omega))
                  refine WC_skip ?_
                  refine thenE_normal ?_
                  refine WC_block ?_
                  refine WC_region ?_
                  refine WL_x (x_move (v := .int .i64 _) rfl) ?_
                  refine WL_x (x_binop rfl rfl (r_add_in (i64_in (by omega) (by omega)))) ?_
                  refine WL_x (x_assign (v := .int .i64 _) rfl) ?_
                  refine WL_nil ?_
                  refine inBlockE_normal ?_
                  refine thenE_normal ?_
                  exact ⟨i + 1, ⟨by rw [← hI, hK], by omega, by omega, (congrArg (Value.int .i64) (by first | omega | rfl | (simp only; omega))), rfl, rfl, rfl, H⟩, by omega⟩
                · have hK := scanUp_end (p := (fun x => Go.Sort.ltInt x K[a]!)) (d := K) (j := j1) (i := i) (.inr (by exact lt_no h112 (by omega) (by omega)))
                  refine WC_exit ?_
                  refine thenE_exit ?_
                  refine thenE_exit ?_
                  refine inBlockE_exit ?_
                  refine thenE_normal ?_
                  exact ⟨i, by rw [← hI, hK], by omega, by omega, rfl, rfl, rfl, rfl, H⟩
              · have hK := scanUp_end (p := (fun x => Go.Sort.ltInt x K[a]!)) (d := K) (j := j1) (i := i) (.inl (by omega))
                refine WG_skip (i := 4) (listed' := [true, true, true, true, true, false, false, false, false, false, false, false, false, false]) rfl (by kernel_rfl) rfl rfl rfl H rfl ?_
                refine WG_skip (i := 5) (listed' := [true, true, true, true, true, true, false, false, false, false, false, false, false, false]) rfl (by kernel_rfl) rfl rfl rfl H rfl ?_
                refine WG_skip (i := 6) (listed' := [true, true, true, true, true, true, true, false, false, false, false, false, false, false]) rfl (by kernel_rfl) rfl rfl rfl H rfl ?_
                refine WG_skip (i := 7) (listed' := [true, true, true, true, true, true, true, true, false, false, false, false, false, false]) rfl (by kernel_rfl) rfl rfl rfl H rfl ?_
                refine WG_skip (i := 8) (listed' := [true, true, true, true, true, true, true, true, true, false, false, false, false, false]) rfl (by kernel_rfl) rfl rfl rfl H rfl ?_
                refine WG_skip (i := 9) (listed' := [true, true, true, true, true, true, true, true, true, true, false, false, false, false]) rfl (by kernel_rfl) rfl rfl rfl H rfl ?_
                refine WG_skip (i := 10) (listed' := [true, true, true, true, true, true, true, true, true, true, true, false, false, false]) rfl (by kernel_rfl) rfl rfl rfl H rfl ?_
                refine WG_skip (i := 11) (listed' := [true, true, true, true, true, true, true, true, true, true, true, true, false, false]) rfl (by kernel_rfl) rfl rfl rfl H rfl ?_
                refine WG_skip (i := 12) (listed' := [true, true, true, true, true, true, true, true, true, true, true, true, true, false]) rfl (by kernel_rfl) rfl rfl rfl H rfl ?_
                refine WG_take (i := 13) (listed' := [true, true, true, true, true, true, true, true, true, true, true, true, true, true]) rfl (by kernel_rfl) (fun w H => x_pick (v := .bool _) rfl rfl) H rfl ?_
                refine WG_done (by kernel_rfl) ?_
                refine thenE_normal ?_
                refine WC_no rfl ?_
                refine WC_exit ?_
                refine thenE_exit ?_
                refine thenE_exit ?_
                refine inBlockE_exit ?_
                refine thenE_normal ?_
                exact ⟨i, by rw [← hI, hK], by omega, by omega, rfl, rfl, rfl, rfl, H⟩
          · clear H
            rintro i f w ⟨hi, hi1, hi2, hfi, hfj, h0, h1, H⟩
            rw [← upd_self hfi, ← upd_self hfj, ← upd_self h0, ← upd_self h1]
            have hij : i ≤ j1 + 2 := by omega
            refine WC_cut (fun (j : Nat) f w' => j = Go.Sort.scanDown (fun x => !Go.Sort.ltInt x K[a]!) K i j1 ∧ i ≤ j + 2 ∧ j ≤ j1 ∧ f 11 = .int .i64 j ∧ f 10 = .int .i64 i ∧ f 0 = .slice A n c ∧ f 1 = .int .i64 a ∧ St W (row A c 21 1 n (nums .i32 d.toList)).fp [row A c 21 1 n (nums .i32 K.toList)] [] w') ?_ ?_
            · refine WC_block ?_
              refine WC_while (fun (j : Nat) f w' => Go.Sort.scanDown (fun x => !Go.Sort.ltInt x K[a]!) K i j = Go.Sort.scanDown (fun x => !Go.Sort.ltInt x K[a]!) K i j1 ∧ i ≤ j + 2 ∧ j ≤ j1 ∧ f 11 = .int .i64 j ∧ f 10 = .int .i64 i ∧ f 0 = .slice A n c ∧ f 1 = .int .i64 a ∧ St W (row A c 21 1 n (nums .i32 d.toList)).fp [row A c 21 1 n (nums .i32 K.toList)] [] w') (fun j => j) (s0 := (j1)) ?_ ?_
              · exact ⟨rfl, hij, Nat.le_refl _, (congrArg (Value.int .i64) (by first | omega | rfl | (simp only; omega))), (congrArg (Value.int .i64) (by first | omega | rfl | (simp only; omega))), rfl, rfl, H⟩
              · clear H
                rintro j f w ⟨hI, hj1, hj2, hfj, hfi, h0, h1, H⟩
                rw [← upd_self hfi, ← upd_self hfj, ← upd_self h0, ← upd_self h1]
                refine WC_seq ?_
                refine WC_seq ?_
                refine WC_drawH (m := 15) (listed := [false, false, false, false, false, false, false, false, false, false, false, false, false, false, false]) 15 (by kernel_rfl) rfl rfl H ?_
                intro w H
                refine WG_take (i := 0) (listed' := [true, false, false, false, false, false, false, false, false, false, false, false, false, false, false]) rfl (by kernel_rfl) (fun w H => x_move (v := .int .i64 _) rfl) H rfl ?_
                refine WG_take (i := 1) (listed' := [true, true, false, false, false, false, false, false, false, false, false, false, false, false, false]) rfl (by kernel_rfl) (fun w H => x_move (v := .int .i64 _) rfl) H rfl ?_
                refine WG_take (i := 2) (listed' := [true, true, true, false, false, false, false, false, false, false, false, false, false, false, false]) rfl (by kernel_rfl) (fun w H => x_binop rfl rfl (r_leq _ _ _ _)) H rfl ?_
                refine WG_take (i := 3) (listed' := [true, true, true, true, false, false, false, false, false, false, false, false, false, false, false]) rfl (by kernel_rfl) (fun w H => x_move (v := .bool _) rfl) H rfl ?_
                first | refine WG_cased (t := 118) rfl (fun h118 => ?_) (fun h118 => ?_) | refine WG_casen (t := 118) rfl (fun h118 => ?_) (fun h118 => ?_) | refine WG_case (t := 118) rfl (fun h118 => ?_) (fun h118 => ?_)
                · obtain ⟨j, rfl⟩ : ∃ j9, j = j9 + 1 := ⟨j - 1, by omega⟩
                  refine WG_takeG (i := 4) (listed' := [true, true, true, true, true, false, false, false, false, false, false, false, false, false, false]) rfl (by kernel_rfl) rfl rfl rfl (fun w H => x_move (v := .slice _ _ _) rfl) H rfl ?_
                  refine WG_takeG (i := 5) (listed' := [true, true, true, true, true, true, false, false, false, false, false, false, false, false, false]) rfl (by kernel_rfl) rfl rfl rfl (fun w H => x_move (v := .int .i64 _) rfl) H rfl ?_
                  refine WG_takeG (i := 6) (listed' := [true, true, true, true, true, true, true, false, false, false, false, false, false, false, false]) rfl (by kernel_rfl) rfl rfl rfl (fun w H => x_indexAddr (s := 1) Try.underlying23 (by kernel_rfl) rfl rfl (by omega) (by omega) (by first | rfl | assumption | exact H.rsomen .zero (by omega) | exact H.rsomen (.succ .zero) (by omega) | exact H.rsomen (.succ (.succ .zero)) (by omega) | exact H.osomen .zero (by omega) | exact H.osomen (.succ .zero) (by omega) | exact H.osomen (.succ (.succ .zero)) (by omega)) rfl) H rfl ?_
                  first | refine WG_takeG (i := 7) (listed' := [true, true, true, true, true, true, true, true, false, false, false, false, false, false, false]) rfl (by kernel_rfl) rfl rfl rfl (fun w H => x_load (v := .int .i32 _) Try.underlying21 rfl rfl (H.cellAt .zero rfl)) H rfl ?_ | refine WG_takeG (i := 7) (listed' := [true, true, true, true, true, true, true, true, false, false, false, false, false, false, false]) rfl (by kernel_rfl) rfl rfl rfl (fun w H => x_load (v := .int .i32 _) Try.underlying21 rfl rfl (H.cellAt (.succ .zero) rfl)) H rfl ?_ | refine WG_takeG (i := 7) (listed' := [true, true, true, true, true, true, true, true, false, false, false, false, false, false, false]) rfl (by kernel_rfl) rfl rfl rfl (fun w H => x_load (v := .int .i32 _) Try.underlying21 rfl rfl (H.cellAt (.succ (.succ .zero)) rfl)) H rfl ?_ | refine WG_takeG (i := 7) (listed' := [true, true, true, true, true, true, true, true, false, false, false, false, false, false, false]) rfl (by kernel_rfl) rfl rfl rfl (fun w H => x_load (v := .int .i32 _) Try.underlying21 rfl rfl (H.cellAt (.succ (.succ (.succ .zero))) rfl)) H rfl ?_ | refine WG_takeG (i := 7) (listed' := [true, true, true, true, true, true, true, true, false, false, false, false, false, false, false]) rfl (by kernel_rfl) rfl rfl rfl (fun w H => x_load (v := .int .i32 _) Try.underlying21 rfl rfl (H.cellAt (.succ (.succ (.succ (.succ .zero)))) rfl)) H rfl ?_ | refine WG_takeG (i := 7) (listed' := [true, true, true, true, true, true, true, true, false, false, false, false, false, false, false]) rfl (by kernel_rfl) rfl rfl rfl (fun w H => x_load Try.underlying21 rfl rfl (H.rnum .zero (by omega) (by omega))) H rfl ?_ | refine WG_takeG (i := 7) (listed' := [true, true, true, true, true, true, true, true, false, false, false, false, false, false, false]) rfl (by kernel_rfl) rfl rfl rfl (fun w H => x_load Try.underlying21 rfl rfl (H.rnum (.succ .zero) (by omega) (by omega))) H rfl ?_ | refine WG_takeG (i := 7) (listed' := [true, true, true, true, true, true, true, true, false, false, false, false, false, false, false]) rfl (by kernel_rfl) rfl rfl rfl (fun w H => x_load Try.underlying21 rfl rfl (H.rnum (.succ (.succ .zero)) (by omega) (by omega))) H rfl ?_ | refine WG_takeG (i := 7) (listed' := [true, true, true, true, true, true, true, true, false, false, false, false, false, false, false]) rfl (by kernel_rfl) rfl rfl rfl (fun w H => x_load Try.underlying21 rfl rfl (H.onum .zero (by omega) (by omega))) H rfl ?_ | refine WG_takeG (i := 7) (listed' := [true, true, true, true, true, true, true, true, false, false, false, false, false, false, false]) rfl (by kernel_rfl) rfl rfl rfl (fun w H => x_load Try.underlying21 rfl rfl (H.onum (.succ .zero) (by omega) (by omega))) H rfl ?_ | refine WG_takeG (i := 7) (listed' := [true, true, true, true, true, true, true, true, false, false, false, false, false, false, false]) rfl (by kernel_rfl) rfl rfl rfl (fun w H => x_load Try.underlying21 rfl rfl (H.onum (.succ (.succ .zero)) (by omega) (by omega))) H rfl ?_
                  refine WG_takeG (i := 8) (listed' := [true, true, true, true, true, true, true, true, true, false, false, false, false, false, false]) rfl (by kernel_rfl) rfl rfl rfl (fun w H => x_move (v := .slice _ _ _) rfl) H rfl ?_
                  refine WG_takeG (i := 9) (listed' := [true, true, true, true, true, true, true, true, true, true, false, false, false, false, false]) rfl (by kernel_rfl) rfl rfl rfl (fun w H => x_move (v := .int .i64 _) rfl) H rfl ?_
                  refine WG_takeG (i := 10) (listed' := [true, true, true, true, true, true, true, true, true, true, true, false, false, false, false]) rfl (by kernel_rfl) rfl rfl rfl (fun w H => x_indexAddr (s := 1) Try.underlying23 (by kernel_rfl) rfl rfl (by omega) (by omega) (by first | rfl | assumption | exact H.rsomen .zero (by omega) | exact H.rsomen (.succ .zero) (by omega) | exact H.rsomen (.succ (.succ .zero)) (by omega) | exact H.osomen .zero (by omega) | exact H.osomen (.succ .zero) (by omega) | exact H.osomen (.succ (.succ .zero)) (by omega)) rfl) H rfl ?_
                  first | refine WG_takeG (i := 11) (listed' := [true, true, true, true, true, true, true, true, true, true, true, true, false, false, false]) rfl (by kernel_rfl) rfl rfl rfl (fun w H => x_load (v := .int .i32 _) Try.underlying21 rfl rfl (H.cellAt .zero rfl)) H rfl ?_ | refine WG_takeG (i := 11) (listed' := [true, true, true, true, true, true, true, true, true, true, true, true, false, false, false]) rfl (by kernel_rfl) rfl rfl rfl (fun w H => x_load (v := .int .i32 _) Try.underlying21 rfl rfl (H.cellAt (.succ .zero) rfl)) H rfl ?_ | refine WG_takeG (i := 11) (listed' := [true, true, true, true, true, true, true, true, true, true, true, true, false, false, false]) rfl (by kernel_rfl) rfl rfl rfl (fun w H => x_load (v := .int .i32 _) Try.underlying21 rfl rfl (H.cellAt (.succ (.succ .zero)) rfl)) H rfl ?_ | refine WG_takeG (i := 11) (listed' := [true, true, true, true, true, true, true, true, true, true, true, true, false, false, false]) rfl (by kernel_rfl) rfl rfl rfl (fun w H => x_load (v := .int .i32 _) Try.underlying21 rfl rfl (H.cellAt (.succ (.succ (.succ .zero))) rfl)) H rfl ?_ | refine WG_takeG (i := 11) (listed' := [true, true, true, true, true, true, true, true, true, true, true, true, false, false, false]) rfl (by kernel_rfl) rfl rfl rfl (fun w H => x_load (v := .int .i32 _) Try.underlying21 rfl rfl (H.cellAt (.succ (.succ (.succ (.succ .zero)))) rfl)) H rfl ?_ | refine WG_takeG (i := 11) (listed' := [true, true, true, true, true, true, true, true, true, true, true, true, false, false, false]) rfl (by kernel_rfl) rfl rfl rfl (fun w H => x_load Try.underlying21 rfl rfl (H.rnum .zero (by omega) (by omega))) H rfl ?_ | refine WG_takeG (i := 11) (listed' := [true, true, true, true, true, true, true, true, true, true, true, true, false, false, false]) rfl (by kernel_rfl) rfl rfl rfl (fun w H => x_load Try.underlying21 rfl rfl (H.rnum (.succ .zero) (by omega) (by omega))) H rfl ?_ | refine WG_takeG (i := 11) (listed' := [true, true, true, true, true, true, true, true, true, true, true, true, false, false, false]) rfl (by kernel_rfl) rfl rfl rfl (fun w H => x_load Try.underlying21 rfl rfl (H.rnum (.succ (.succ .zero)) (by omega) (by omega))) H rfl ?_ | refine WG_takeG (i := 11) (listed' := [true, true, true, true, true, true, true, true, true, true, true, true, false, false, false]) rfl (by kernel_rfl) rfl rfl rfl (fun w H => x_load Try.underlying21 rfl rfl (H.onum .zero (by omega) (by omega))) H rfl ?_ | refine WG_takeG (i := 11) (listed' := [true, true, true, true, true, true, true, true, true, true, true, true, false, false, false]) rfl (by kernel_rfl) rfl rfl rfl (fun w H => x_load Try.underlying21 rfl rfl (H.onum (.succ .zero) (by omega) (by omega))) H rfl ?_ | refine WG_takeG (i := 11) (listed' := [true, true, true, true, true, true, true, true, true, true, true, true, false, false, false]) rfl (by kernel_rfl) rfl rfl rfl (fun w H => x_load Try.underlying21 rfl rfl (H.onum (.succ (.succ .zero)) (by omega) (by omega))) H rfl ?_
                  refine WG_midG (i := 12) (listed' := [true, true, true, true, true, true, true, true, true, true, true, true, true, false, false]) rfl rfl rfl rfl rfl (by kernel_rfl) rfl rfl ?_
                  refine WL_guard_yes rfl rfl rfl ?_
                  refine WL_call (vs := [.int .i32 _, .int .i32 _]) Try.func23 rfl rfl rfl (less_i32 _ _ _) ?_
                  rintro _ w ⟨rfl, hf⟩
                  refine ⟨_, rfl, ?_⟩
                  replace H := H.quiet hf
                  refine WL_nil ?_
                  refine mid_mk H ?_
                  refine WG_takeG (i := 13) (listed' := [true, true, true, true, true, true, true, true, true, true, true, true, true, true, false]) rfl (by kernel_rfl) rfl rfl rfl (fun w H => x_not rfl) H rfl ?_
                  refine WG_take (i := 14) (listed' := [true, true, true, true, true, true, true, true, true, true, true, true, true, true, true]) rfl (by kernel_rfl) (fun w H => x_pick (v := .bool _) rfl rfl) H rfl ?_
                  refine WG_done (by kernel_rfl) ?_
                  refine thenE_normal ?_
                  refine WC_ifn rfl (fun h129 => ?_) (fun h129 => ?_)
                  · have hK := scanDown_go (p := (fun x => !Go.Sort.ltInt x K[a]!)) (d := K) (i := i) (j := j) (by omega) (by exact lt_nyes h129 (by omega) (by omega))
                    refine WC_skip ?_
                    refine thenE_normal ?_
                    refine WC_block ?_
                    refine WC_region ?_
                    refine WL_x (x_move (v := .int .i64 _) rfl) ?_
                    refine WL_x (x_binop rfl rfl (r_sub_in (i64_in (by omega) (by omega)))) ?_
                    refine WL_x (x_assign (v := .int .i64 _) rfl) ?_
                    refine WL_nil ?_
                    refine inBlockE_normal ?_
                    refine thenE_normal ?_
                    exact ⟨j, ⟨by rw [← hI, hK], by omega, by omega, (congrArg (Value.int .i64) (by first | omega | rfl | (simp only; omega))), rfl, rfl, rfl, H⟩, by omega⟩
                  · have hK := scanDown_end (p := (fun x => !Go.Sort.ltInt x K[a]!)) (d := K) (i := i) (j := j + 1) (by omega) (.inr (by exact lt_nno h129 (by omega) (by omega)))
                    refine WC_exit ?_
                    refine thenE_exit ?_
                    refine thenE_exit ?_
                    refine inBlockE_exit ?_
                    refine thenE_normal ?_
                    first
                      | exact ⟨j, by rw [← hI, hK], by omega, by omega, rfl, rfl, rfl, rfl, H⟩
                      | exact ⟨j + 1, by rw [← hI, hK], by omega, by omega, rfl, rfl, rfl, rfl, H⟩
                · have hK := scanDown_end (p := (fun x => !Go.Sort.ltInt x K[a]!)) (d := K) (i := i) (j := j) (by omega) (.inl (by omega))
                  refine WG_skip (i := 4) (listed' := [true, true, true, true, true, false, false, false, false, false, false, false, false, false, false]) rfl (by kernel_rfl) rfl rfl rfl H rfl ?_
                  refine WG_skip (i := 5) (listed' := [true, true, true, true, true, true, false, false, false, false, false, false, false, false, false]) rfl (by kernel_rfl) rfl rfl rfl H rfl ?_
                  refine WG_skip (i := 6) (listed' := [true, true, true, true, true, true, true, false, false, false, false, false, false, false, false]) rfl (by kernel_rfl) rfl rfl rfl H rfl ?_
                  refine WG_skip (i := 7) (listed' := [true, true, true, true, true, true, true, true, false, false, false, false, false, false, false]) rfl (by kernel_rfl) rfl rfl rfl H rfl ?_
                  refine WG_skip (i := 8) (listed' := [true, true, true, true, true, true, true, true, true, false, false, false, false, false, false]) rfl (by kernel_rfl) rfl rfl rfl H rfl ?_
                  refine WG_skip (i := 9) (listed' := [true, true, true, true, true, true, true, true, true, true, false, false, false, false, false]) rfl (by kernel_rfl) rfl rfl rfl H rfl ?_
                  refine WG_skip (i := 10) (listed' := [true, true, true, true, true, true, true, true, true, true, true, false, false, false, false]) rfl (by kernel_rfl) rfl rfl rfl H rfl ?_
                  refine WG_skip (i := 11) (listed' := [true, true, true, true, true, true, true, true, true, true, true, true, false, false, false]) rfl (by kernel_rfl) rfl rfl rfl H rfl ?_
                  refine WG_skip (i := 12) (listed' := [true, true, true, true, true, true, true, true, true, true, true, true, true, false, false]) rfl (by kernel_rfl) rfl rfl rfl H rfl ?_
                  refine WG_skip (i := 13) (listed' := [true, true, true, true, true, true, true, true, true, true, true, true, true, true, false]) rfl (by kernel_rfl) rfl rfl rfl H rfl ?_
                  refine WG_take (i := 14) (listed' := [true, true, true, true, true, true, true, true, true, true, true, true, true, true, true]) rfl (by kernel_rfl) (fun w H => x_pick (v := .bool _) rfl rfl) H rfl ?_
                  refine WG_done (by kernel_rfl) ?_
                  refine thenE_normal ?_
                  refine WC_no rfl ?_
                  refine WC_exit ?_
                  refine thenE_exit ?_
                  refine thenE_exit ?_
                  refine inBlockE_exit ?_
                  refine thenE_normal ?_
                  first
                    | exact ⟨j, by rw [← hI, hK], by omega, by omega, rfl, rfl, rfl, rfl, H⟩
                    | exact ⟨j + 1, by rw [← hI, hK], by omega, by omega, rfl, rfl, rfl, rfl, H⟩
            · clear H
              rintro j f w ⟨hj, hj1, hj2, hfj, hfi, h0, h1, H⟩
              rw [← upd_self hfi, ← upd_self hfj, ← upd_self h0, ← upd_self h1]
              refine WC_seq ?_
              refine WC_seq ?_
              refine WC_region ?_
              refine WL_x (x_move (v := .int .i64 _) rfl) ?_
              refine WL_x (x_move (v := .int .i64 _) rfl) ?_
              refine WL_x (x_binop rfl rfl (r_gtr _ _ _ _)) ?_
              refine WL_nil ?_
              refine thenE_normal ?_
              refine WC_ifd rfl (fun h134 => ?_) (fun h134 => ?_)
              · have hstop := partLoop_stop (a := a) hi hj (by omega)
                have hR := part_two (b := b) hMe hi0 hj0 (by omega) (hO.symm.trans hstop)
                refine WC_exit ?_
                refine thenE_exit ?_
                refine inBlockE_other rfl ?_
                refine thenE_exit ?_
                refine inBlockE_exit ?_
                refine thenE_normal ?_
                refine WC_seq ?_
                refine WC_drawT (m := 16) (listed := [false, false, false, false, false, false, false, false, false, false, false, false, false, false, false, false]) (by kernel_rfl) rfl rfl H ?_
                intro w H
                refine WG_take (i := 2) (listed' := [false, false, true, false, false, false, false, false, false, false, false, false, false, false, false, false]) rfl (by kernel_rfl) (fun w _ => x_move (v := .slice _ _ _) rfl) trivial rfl ?_
                refine WG_take (i := 3) (listed' := [false, false, true, true, false, false, false, false, false, false, false, false, false, false, false, false]) rfl (by kernel_rfl) (fun w _ => x_move (v := .int .i64 _) rfl) trivial rfl ?_
                refine WG_true (S := fun w => St W (row A c 21 1 n (nums .i32 d.toList)).fp [row A c 21 1 n (nums .i32 K.toList)] [] w) (n := 13) rfl ?_
                refine WG_take (i := 0) (listed' := [true, false, true, true, false, false, false, false, false, false, false, false, false, false, false, false]) rfl (by kernel_rfl) (fun w H => x_move (v := .slice _ _ _) rfl) H rfl ?_
                refine WG_take (i := 1) (listed' := [true, true, true, true, false, false, false, false, false, false, false, false, false, false, false, false]) rfl (by kernel_rfl) (fun w H => x_move (v := .int .i64 _) rfl) H rfl ?_
                refine WG_take (i := 4) (listed' := [true, true, true, true, true, false, false, false, false, false, false, false, false, false, false, false]) rfl (by kernel_rfl) (fun w H => x_move (v := .slice _ _ _) rfl) H rfl ?_
                refine WG_take (i := 5) (listed' := [true, true, true, true, true, true, false, false, false, false, false, false, false, false, false, false]) rfl (by kernel_rfl) (fun w H => x_move (v := .int .i64 _) rfl) H rfl ?_
                refine WG_take (i := 6) (listed' := [true, true, true, true, true, true, true, false, false, false, false, false, false, false, false, false]) rfl (by kernel_rfl) (fun w H => x_indexAddr (s := 1) Try.underlying23 (by kernel_rfl) rfl rfl (by omega) (by omega) (by first | rfl | assumption | exact H.rsomen .zero (by omega) | exact H.rsomen (.succ .zero) (by omega) | exact H.rsomen (.succ (.succ .zero)) (by omega) | exact H.osomen .zero (by omega) | exact H.osomen (.succ .zero) (by omega) | exact H.osomen (.succ (.succ .zero)) (by omega)) rfl) H rfl ?_
                first | refine WG_take (i := 7) (listed' := [true, true, true, true, true, true, true, true, false, false, false, false, false, false, false, false]) rfl (by kernel_rfl) (fun w H => x_load (v := .int .i32 _) Try.underlying21 rfl rfl (H.cellAt .zero rfl)) H rfl ?_ | refine WG_take (i := 7) (listed' := [true, true, true, true, true, true, true, true, false, false, false, false, false, false, false, false]) rfl (by kernel_rfl) (fun w H => x_load (v := .int .i32 _) Try.underlying21 rfl rfl (H.cellAt (.succ .zero) rfl)) H rfl ?_ | refine WG_take (i := 7) (listed' := [true, true, true, true, true, true, true, true, false, false, false, false, false, false, false, false]) rfl (by kernel_rfl) (fun w H => x_load (v := .int .i32 _) Try.underlying21 rfl rfl (H.cellAt (.succ (.succ .zero)) rfl)) H rfl ?_ | refine WG_take (i := 7) (listed' := [true, true, true, true, true, true, true, true, false, false, false, false, false, false, false, false]) rfl (by kernel_rfl) (fun w H => x_load (v := .int .i32 _) Try.underlying21 rfl rfl (H.cellAt (.succ (.succ (.succ .zero))) rfl)) H rfl ?_ | refine WG_take (i := 7) (listed' := [true, true, true, true, true, true, true, true, false, false, false, false, false, false, false, false]) rfl (by kernel_rfl) (fun w H => x_load (v := .int .i32 _) Try.underlying21 rfl rfl (H.cellAt (.succ (.succ (.succ (.succ .zero)))) rfl)) H rfl ?_ | refine WG_take (i := 7) (listed' := [true, true, true, true, true, true, true, true, false, false, false, false, false, false, false, false]) rfl (by kernel_rfl) (fun w H => x_load Try.underlying21 rfl rfl (H.rnum .zero (by omega) (by omega))) H rfl ?_ | refine WG_take (i := 7) (listed' := [true, true, true, true, true, true, true, true, false, false, false, false, false, false, false, false]) rfl (by kernel_rfl) (fun w H => x_load Try.underlying21 rfl rfl (H.rnum (.succ .zero) (by omega) (by omega))) H rfl ?_ | refine WG_take (i := 7) (listed' := [true, true, true, true, true, true, true, true, false, false, false, false, false, false, false, false]) rfl (by kernel_rfl) (fun w H => x_load Try.underlying21 rfl rfl (H.rnum (.succ (.succ .zero)) (by omega) (by omega))) H rfl ?_ | refine WG_take (i := 7) (listed' := [true, true, true, true, true, true, true, true, false, false, false, false, false, false, false, false]) rfl (by kernel_rfl) (fun w H => x_load Try.underlying21 rfl rfl (H.onum .zero (by omega) (by omega))) H rfl ?_ | refine WG_take (i := 7) (listed' := [true, true, true, true, true, true, true, true, false, false, false, false, false, false, false, false]) rfl (by kernel_rfl) (fun w H => x_load Try.underlying21 rfl rfl (H.onum (.succ .zero) (by omega) (by omega))) H rfl ?_ | refine WG_take (i := 7) (listed' := [true, true, true, true, true, true, true, true, false, false, false, false, false, false, false, false]) rfl (by kernel_rfl) (fun w H => x_load Try.underlying21 rfl rfl (H.onum (.succ (.succ .zero)) (by omega) (by omega))) H rfl ?_
                refine WG_take (i := 8) (listed' := [true, true, true, true, true, true, true, true, true, false, false, false, false, false, false, false]) rfl (by kernel_rfl) (fun w H => x_move (v := .slice _ _ _) rfl) H rfl ?_
                refine WG_take (i := 9) (listed' := [true, true, true, true, true, true, true, true, true, true, false, false, false, false, false, false]) rfl (by kernel_rfl) (fun w H => x_move (v := .int .i64 _) rfl) H rfl ?_
                refine WG_take (i := 10) (listed' := [true, true, true, true, true, true, true, true, true, true, true, false, false, false, false, false]) rfl (by kernel_rfl) (fun w H => x_indexAddr (s := 1) Try.underlying23 (by kernel_rfl) rfl rfl (by omega) (by omega) (by first | rfl | assumption | exact H.rsomen .zero (by omega) | exact H.rsomen (.succ .zero) (by omega) | exact H.rsomen (.succ (.succ .zero)) (by omega) | exact H.osomen .zero (by omega) | exact H.osomen (.succ .zero) (by omega) | exact H.osomen (.succ (.succ .zero)) (by omega)) rfl) H rfl ?_
                first | refine WG_take (i := 11) (listed' := [true, true, true, true, true, true, true, true, true, true, true, true, false, false, false, false]) rfl (by kernel_rfl) (fun w H => x_load (v := .int .i32 _) Try.underlying21 rfl rfl (H.cellAt .zero rfl)) H rfl ?_ | refine WG_take (i := 11) (listed' := [true, true, true, true, true, true, true, true, true, true, true, true, false, false, false, false]) rfl (by kernel_rfl) (fun w H => x_load (v := .int .i32 _) Try.underlying21 rfl rfl (H.cellAt (.succ .zero) rfl)) H rfl ?_ | refine WG_take (i := 11) (listed' := [true, true, true, true, true, true, true, true, true, true, true, true, false, false, false, false]) rfl (by kernel_rfl) (fun w H => x_load (v := .int .i32 _) Try.underlying21 rfl rfl (H.cellAt (.succ (.succ .zero)) rfl)) H rfl ?_ | refine WG_take (i := 11) (listed' := [true, true, true, true, true, true, true, true, true, true, true, true, false, false, false, false]) rfl (by kernel_rfl) (fun w H => x_load (v := .int .i32 _) Try.underlying21 rfl rfl (H.cellAt (.succ (.succ (.succ .zero))) rfl)) H rfl ?_ | refine WG_take (i := 11) (listed' := [true, true, true, true, true, true, true, true, true, true, true, true, false, false, false, false]) rfl (by kernel_rfl) (fun w H => x_load (v := .int .i32 _) Try.underlying21 rfl rfl (H.cellAt (.succ (.succ (.succ (.succ .zero)))) rfl)) H rfl ?_ | refine WG_take (i := 11) (listed' := [true, true, true, true, true, true, true, true, true, true, true, true, false, false, false, false]) rfl (by kernel_rfl) (fun w H => x_load Try.underlying21 rfl rfl (H.rnum .zero (by omega) (by omega))) H rfl ?_ | refine WG_take (i := 11) (listed' := [true, true, true, true, true, true, true, true, true, true, true, true, false, false, false, false]) rfl (by kernel_rfl) (fun w H => x_load Try.underlying21 rfl rfl (H.rnum (.succ .zero) (by omega) (by omega))) H rfl ?_ | refine WG_take (i := 11) (listed' := [true, true, true, true, true, true, true, true, true, true, true, true, false, false, false, false]) rfl (by kernel_rfl) (fun w H => x_load Try.underlying21 rfl rfl (H.rnum (.succ (.succ .zero)) (by omega) (by omega))) H rfl ?_ | refine WG_take (i := 11) (listed' := [true, true, true, true, true, true, true, true, true, true, true, true, false, false, false, false]) rfl (by kernel_rfl) (fun w H => x_load Try.underlying21 rfl rfl (H.onum .zero (by omega) (by omega))) H rfl ?_ | refine WG_take (i := 11) (listed' := [true, true, true, true, true, true, true, true, true, true, true, true, false, false, false, false]) rfl (by kernel_rfl) (fun w H => x_load Try.underlying21 rfl rfl (H.onum (.succ .zero) (by omega) (by omega))) H rfl ?_ | refine WG_take (i := 11) (listed' := [true, true, true, true, true, true, true, true, true, true, true, true, false, false, false, false]) rfl (by kernel_rfl) (fun w H => x_load Try.underlying21 rfl rfl (H.onum (.succ (.succ .zero)) (by omega) (by omega))) H rfl ?_
                refine WG_take (i := 12) (listed' := [true, true, true, true, true, true, true, true, true, true, true, true, true, false, false, false]) rfl (by kernel_rfl) (fun w H => x_indexAddr (s := 1) Try.underlying23 (by kernel_rfl) rfl rfl (by omega) (by omega) (by first | rfl | assumption | exact H.rsomen .zero (by omega) | exact H.rsomen (.succ .zero) (by omega) | exact H.rsomen (.succ (.succ .zero)) (by omega) | exact H.osomen .zero (by omega) | exact H.osomen (.succ .zero) (by omega) | exact H.osomen (.succ (.succ .zero)) (by omega)) rfl) H rfl ?_
                refine WG_next (fun w => St W (row A c 21 1 n (nums .i32 d.toList)).fp [row A c 21 1 n (nums .i32 (K.setIfInBounds j K[a]!).toList)] [] w) 15 (listed' := [true, true, true, true, true, true, true, true, true, true, true, true, true, true, false, false]) rfl rfl (by kernel_rfl) rfl ?_
                refine WL_storeR (v := .int .i32 _) (o := j) (n := n) (xs := nums .i32 K.toList) (xs' := nums .i32 (K.setIfInBounds j K[a]!).toList) Try.underlying21 rfl rfl rfl rfl (by kernel_rfl) (by omega) H .zero (by rw [nums_length]; omega) (nums_setA _ _ _ (nth_at (by omega))) ?_
                clear H; intro w H
                refine WL_nil ?_
                refine nx_mk ?_
                refine WG_take (i := 14) (listed' := [true, true, true, true, true, true, true, true, true, true, true, true, true, true, true, false]) rfl (by kernel_rfl) (fun w H => x_indexAddr (s := 1) Try.underlying23 (by kernel_rfl) rfl rfl (by omega) (by omega) (H.osomen .zero (by rw [len_setA]; omega)) rfl) H rfl ?_
                refine WG_fin (listed' := [true, true, true, true, true, true, true, true, true, true, true, true, true, true, true, true]) rfl rfl (by kernel_rfl) rfl (by kernel_rfl) ?_
                refine WL_storeR (v := .int .i32 _) (o := a) (n := n) (xs := nums .i32 (K.setIfInBounds j K[a]!).toList) (xs' := nums .i32 (Go.Sort.swp K j a).toList) Try.underlying21 rfl rfl rfl rfl (by kernel_rfl) (by omega) H .zero (by rw [nums_length, len_setA]; omega) (nums_setA _ _ _ (nth_at (by omega))) ?_
                clear H; intro w H
                have hM2 : (Go.Sort.swp K j a).toList.length = n := by rw [len_swp]; exact hM
                refine WL_nil ?_
                refine fin_mk ?_
                refine thenE_normal ?_
                refine WC_seq ?_
                refine WC_region ?_
                refine WL_x (x_move (v := .int .i64 _) rfl) ?_
                refine WL_x (x_assign (v := .int .i64 _) rfl) ?_
                refine WL_x (x_assign (v := (.bool false)) rfl) ?_
                refine WL_nil ?_
                refine thenE_normal ?_
                refine WC_ret ?_
                refine ends2 (v1 := .int .i64 _) (v2 := .bool _) Try.results25 rfl rfl ?_
                first
                  | (rw [hR]; exact ⟨_, _, _, rfl, rfl, H.fr, H.ok _ List.mem_cons_self⟩)
              · refine WC_skip ?_
                refine thenE_normal ?_
                refine WC_seq ?_
                refine WC_drawT (m := 16) (listed := [false, false, false, false, false, false, false, false, false, false, false, false, false, false, false, false]) (by kernel_rfl) rfl rfl H ?_
                intro w H
                refine WG_take (i := 2) (listed' := [false, false, true, false, false, false, false, false, false, false, false, false, false, false, false, false]) rfl (by kernel_rfl) (fun w _ => x_move (v := .slice _ _ _) rfl) trivial rfl ?_
                refine WG_take (i := 3) (listed' := [false, false, true, true, false, false, false, false, false, false, false, false, false, false, false, false]) rfl (by kernel_rfl) (fun w _ => x_move (v := .int .i64 _) rfl) trivial rfl ?_
                refine WG_true (S := fun w => St W (row A c 21 1 n (nums .i32 d.toList)).fp [row A c 21 1 n (nums .i32 K.toList)] [] w) (n := 13) rfl ?_
                refine WG_take (i := 0) (listed' := [true, false, true, true, false, false, false, false, false, false, false, false, false, false, false, false]) rfl (by kernel_rfl) (fun w H => x_move (v := .slice _ _ _) rfl) H rfl ?_
                refine WG_take (i := 1) (listed' := [true, true, true, true, false, false, false, false, false, false, false, false, false, false, false, false]) rfl (by kernel_rfl) (fun w H => x_move (v := .int .i64 _) rfl) H rfl ?_
                refine WG_take (i := 4) (listed' := [true, true, true, true, true, false, false, false, false, false, false, false, false, false, false, false]) rfl (by kernel_rfl) (fun w H => x_move (v := .slice _ _ _) rfl) H rfl ?_
                refine WG_take (i := 5) (listed' := [true, true, true, true, true, true, false, false, false, false, false, false, false, false, false, false]) rfl (by kernel_rfl) (fun w H => x_move (v := .int .i64 _) rfl) H rfl ?_
                refine WG_take (i := 6) (listed' := [true, true, true, true, true, true, true, false, false, false, false, false, false, false, false, false]) rfl (by kernel_rfl) (fun w H => x_indexAddr (s := 1) Try.underlying23 (by kernel_rfl) rfl rfl (by omega) (by omega) (by first | rfl | assumption | exact H.rsomen .zero (by omega) | exact H.rsomen (.succ .zero) (by omega) | exact H.rsomen (.succ (.succ .zero)) (by omega) | exact H.osomen .zero (by omega) | exact H.osomen (.succ .zero) (by omega) | exact H.osomen (.succ (.succ .zero)) (by omega)) rfl) H rfl ?_
                first | refine WG_take (i := 7) (listed' := [true, true, true, true, true, true, true, true, false, false, false, false, false, false, false, false]) rfl (by kernel_rfl) (fun w H => x_load (v := .int .i32 _) Try.underlying21 rfl rfl (H.cellAt .zero rfl)) H rfl ?_ | refine WG_take (i := 7) (listed' := [true, true, true, true, true, true, true, true, false, false, false, false, false, false, false, false]) rfl (by kernel_rfl) (fun w H => x_load (v := .int .i32 _) Try.underlying21 rfl rfl (H.cellAt (.succ .zero) rfl)) H rfl ?_ | refine WG_take (i := 7) (listed' := [true, true, true, true, true, true, true, true, false, false, false, false, false, false, false, false]) rfl (by kernel_rfl) (fun w H => x_load (v := .int .i32 _) Try.underlying21 rfl rfl (H.cellAt (.succ (.succ .zero)) rfl)) H rfl ?_ | refine WG_take (i := 7) (listed' := [true, true, true, true, true, true, true, true, false, false, false, false, false, false, false, false]) rfl (by kernel_rfl) (fun w H => x_load (v := .int .i32 _) Try.underlying21 rfl rfl (H.cellAt (.succ (.succ (.succ .zero))) rfl)) H rfl ?_ | refine WG_take (i := 7) (listed' := [true, true, true, true, true, true, true, true, false, false, false, false, false, false, false, false]) rfl (by kernel_rfl) (fun w H => x_load (v := .int .i32 _) Try.underlying21 rfl rfl (H.cellAt (.succ (.succ (.succ (.succ .zero)))) rfl)) H rfl ?_ | refine WG_take (i := 7) (listed' := [true, true, true, true, true, true, true, true, false, false, false, false, false, false, false, false]) rfl (by kernel_rfl) (fun w H => x_load Try.underlying21 rfl rfl (H.rnum .zero (by omega) (by omega))) H rfl ?_ | refine WG_take (i := 7) (listed' := [true, true, true, true, true, true, true, true, false, false, false, false, false, false, false, false]) rfl (by kernel_rfl) (fun w H => x_load Try.underlying21 rfl rfl (H.rnum (.succ .zero) (by omega) (by omega))) H rfl ?_ | refine WG_take (i := 7) (listed' := [true, true, true, true, true, true, true, true, false, false, false, false, false, false, false, false]) rfl (by kernel_rfl) (fun w H => x_load Try.underlying21 rfl rfl (H.rnum (.succ (.succ .zero)) (by omega) (by omega))) H rfl ?_ | refine WG_take (i := 7) (listed' := [true, true, true, true, true, true, true, true, false, false, false, false, false, false, false, false]) rfl (by kernel_rfl) (fun w H => x_load Try.underlying21 rfl rfl (H.onum .zero (by omega) (by omega))) H rfl ?_ | refine WG_take (i := 7) (listed' := [true, true, true, true, true, true, true, true, false, false, false, false, false, false, false, false]) rfl (by kernel_rfl) (fun w H => x_load Try.underlying21 rfl rfl (H.onum (.succ .zero) (by omega) (by omega))) H rfl ?_ | refine WG_take (i := 7) (listed' := [true, true, true, true, true, true, true, true, false, false, false, false, false, false, false, false]) rfl (by kernel_rfl) (fun w H => x_load Try.underlying21 rfl rfl (H.onum (.succ (.succ .zero)) (by omega) (by omega))) H rfl ?_
                refine WG_take (i := 8) (listed' := [true, true, true, true, true, true, true, true, true, false, false, false, false, false, false, false]) rfl (by kernel_rfl) (fun w H => x_move (v := .slice _ _ _) rfl) H rfl ?_
                refine WG_take (i := 9) (listed' := [true, true, true, true, true, true, true, true, true, true, false, false, false, false, false, false]) rfl (by kernel_rfl) (fun w H => x_move (v := .int .i64 _) rfl) H rfl ?_
                refine WG_take (i := 10) (listed' := [true, true, true, true, true, true, true, true, true, true, true, false, false, false, false, false]) rfl (by kernel_rfl) (fun w H => x_indexAddr (s := 1) Try.underlying23 (by kernel_rfl) rfl rfl (by omega) (by omega) (by first | rfl | assumption | exact H.rsomen .zero (by omega) | exact H.rsomen (.succ .zero) (by omega) | exact H.rsomen (.succ (.succ .zero)) (by omega) | exact H.osomen .zero (by omega) | exact H.osomen (.succ .zero) (by omega) | exact H.osomen (.succ (.succ .zero)) (by omega)) rfl) H rfl ?_
                first | refine WG_take (i := 11) (listed' := [true, true, true, true, true, true, true, true, true, true, true, true, false, false, false, false]) rfl (by kernel_rfl) (fun w H => x_load (v := .int .i32 _) Try.underlying21 rfl rfl (H.cellAt .zero rfl)) H rfl ?_ | refine WG_take (i := 11) (listed' := [true, true, true, true, true, true, true, true, true, true, true, true, false, false, false, false]) rfl (by kernel_rfl) (fun w H => x_load (v := .int .i32 _) Try.underlying21 rfl rfl (H.cellAt (.succ .zero) rfl)) H rfl ?_ | refine WG_take (i := 11) (listed' := [true, true, true, true, true, true, true, true, true, true, true, true, false, false, false, false]) rfl (by kernel_rfl) (fun w H => x_load (v := .int .i32 _) Try.underlying21 rfl rfl (H.cellAt (.succ (.succ .zero)) rfl)) H rfl ?_ | refine WG_take (i := 11) (listed' := [true, true, true, true, true, true, true, true, true, true, true, true, false, false, false, false]) rfl (by kernel_rfl) (fun w H => x_load (v := .int .i32 _) Try.underlying21 rfl rfl (H.cellAt (.succ (.succ (.succ .zero))) rfl)) H rfl ?_ | refine WG_take (i := 11) (listed' := [true, true, true, true, true, true, true, true, true, true, true, true, false, false, false, false]) rfl (by kernel_rfl) (fun w H => x_load (v := .int .i32 _) Try.underlying21 rfl rfl (H.cellAt (.succ (.succ (.succ (.succ .zero)))) rfl)) H rfl ?_ | refine WG_take (i := 11) (listed' := [true, true, true, true, true, true, true, true, true, true, true, true, false, false, false, false]) rfl (by kernel_rfl) (fun w H => x_load Try.underlying21 rfl rfl (H.rnum .zero (by omega) (by omega))) H rfl ?_ | refine WG_take (i := 11) (listed' := [true, true, true, true, true, true, true, true, true, true, true, true, false, false, false, false]) rfl (by kernel_rfl) (fun w H => x_load Try.underlying21 rfl rfl (H.rnum (.succ .zero) (by omega) (by omega))) H rfl ?_ | refine WG_take (i := 11) (listed' := [true, true, true, true, true, true, true, true, true, true, true, true, false, false, false, false]) rfl (by kernel_rfl) (fun w H => x_load Try.underlying21 rfl rfl (H.rnum (.succ (.succ .zero)) (by omega) (by omega))) H rfl ?_ | refine WG_take (i := 11) (listed' := [true, true, true, true, true, true, true, true, true, true, true, true, false, false, false, false]) rfl (by kernel_rfl) (fun w H => x_load Try.underlying21 rfl rfl (H.onum .zero (by omega) (by omega))) H rfl ?_ | refine WG_take (i := 11) (listed' := [true, true, true, true, true, true, true, true, true, true, true, true, false, false, false, false]) rfl (by kernel_rfl) (fun w H => x_load Try.underlying21 rfl rfl (H.onum (.succ .zero) (by omega) (by omega))) H rfl ?_ | refine WG_take (i := 11) (listed' := [true, true, true, true, true, true, true, true, true, true, true, true, false, false, false, false]) rfl (by kernel_rfl) (fun w H => x_load Try.underlying21 rfl rfl (H.onum (.succ (.succ .zero)) (by omega) (by omega))) H rfl ?_
                refine WG_take (i := 12) (listed' := [true, true, true, true, true, true, true, true, true, true, true, true, true, false, false, false]) rfl (by kernel_rfl) (fun w H => x_indexAddr (s := 1) Try.underlying23 (by kernel_rfl) rfl rfl (by omega) (by omega) (by first | rfl | assumption | exact H.rsomen .zero (by omega) | exact H.rsomen (.succ .zero) (by omega) | exact H.rsomen (.succ (.succ .zero)) (by omega) | exact H.osomen .zero (by omega) | exact H.osomen (.succ .zero) (by omega) | exact H.osomen (.succ (.succ .zero)) (by omega)) rfl) H rfl ?_
                refine WG_next (fun w => St W (row A c 21 1 n (nums .i32 d.toList)).fp [row A c 21 1 n (nums .i32 (K.setIfInBounds i K[j]!).toList)] [] w) 15 (listed' := [true, true, true, true, true, true, true, true, true, true, true, true, true, true, false, false]) rfl rfl (by kernel_rfl) rfl ?_
                refine WL_storeR (v := .int .i32 _) (o := i) (n := n) (xs := nums .i32 K.toList) (xs' := nums .i32 (K.setIfInBounds i K[j]!).toList) Try.underlying21 rfl rfl rfl rfl (by kernel_rfl) (by omega) H .zero (by rw [nums_length]; omega) (nums_setA _ _ _ (nth_at (by omega))) ?_
                clear H; intro w H
                refine WL_nil ?_
                refine nx_mk ?_
                refine WG_take (i := 14) (listed' := [true, true, true, true, true, true, true, true, true, true, true, true, true, true, true, false]) rfl (by kernel_rfl) (fun w H => x_indexAddr (s := 1) Try.underlying23 (by kernel_rfl) rfl rfl (by omega) (by omega) (H.osomen .zero (by rw [len_setA]; omega)) rfl) H rfl ?_
                refine WG_fin (listed' := [true, true, true, true, true, true, true, true, true, true, true, true, true, true, true, true]) rfl rfl (by kernel_rfl) rfl (by kernel_rfl) ?_
                refine WL_storeR (v := .int .i32 _) (o := j) (n := n) (xs := nums .i32 (K.setIfInBounds i K[j]!).toList) (xs' := nums .i32 (Go.Sort.swp K i j).toList) Try.underlying21 rfl rfl rfl rfl (by kernel_rfl) (by omega) H .zero (by rw [nums_length, len_setA]; omega) (nums_setA _ _ _ (nth_at (by omega))) ?_
                clear H; intro w H
                have hM2 : (Go.Sort.swp K i j).toList.length = n := by rw [len_swp]; exact hM
                refine WL_nil ?_
                refine fin_mk ?_
                refine thenE_normal ?_
                refine WC_seq ?_
                refine WC_region ?_
                refine WL_x (x_move (v := .int .i64 _) rfl) ?_
                refine WL_x (x_binop rfl rfl (r_add_in (i64_in (by omega) (by omega)))) ?_
                refine WL_x (x_assign (v := .int .i64 _) rfl) ?_
                refine WL_nil ?_
                refine thenE_normal ?_
                refine WC_region ?_
                refine WL_x (x_move (v := .int .i64 _) rfl) ?_
                refine WL_x (x_binop rfl rfl (r_sub_in (i64_in (by omega) (by omega)))) ?_
                refine WL_x (x_assign (v := .int .i64 _) rfl) ?_
                refine WL_nil ?_
                refine inBlockE_normal ?_
                refine thenE_normal ?_
                exact ⟨(i + 1, j - 1, Go.Sort.swp K i j), ⟨by simp only; omega, by simp only; omega, by simp only; omega, by simp only; omega, hM2, by simp only; rw [← hO, partLoop_go hi hj (by omega)], (congrArg (Value.int .i64) (by first | omega | rfl | (simp only; omega))), (congrArg (Value.int .i64) (by first | omega | rfl | (simp only; omega))), rfl, rfl, H⟩, by simp only; omega⟩

set_option maxHeartbeats 2000000 in
theorem peq_i32 (W : World) (d : Array Int) (A : Option Addr) (c n : Nat) (h : (row A c 21 1 n (nums .i32 d.toList)).ok W) (hM : d.toList.length = n) (hsz : n ≤ 2305843009213693952) (a b pv : Nat) (hp1 : a ≤ pv) (hp2 : pv < b) (hb : b ≤ n) :
    Calls Try.prog 24 #[.slice A n c, .int .i64 a, .int .i64 b, .int .i64 pv] W fun e w' => e = .returned (.int .i64 ((Go.Sort.partitionEqual Go.Sort.ltInt d a b pv).1 : Nat)) ∧ Fr (row A c 21 1 n (nums .i32 d.toList)).fp W w' ∧ (row A c 21 1 n (nums .i32 (Go.Sort.partitionEqual Go.Sort.ltInt d a b pv).2.toList)).ok w' := by
  have hlen0 := (owns_len h.r)
  unfold maxLen at hlen0
  have H : St W (row A c 21 1 n (nums .i32 d.toList)).fp [row A c 21 1 n (nums .i32 d.toList)] [] W := St.one h
  refine calls_enter (N := 84) Try.func24 rfl Try.ntmps24 rfl ?_
  refine WC_seq ?_
  refine WC_region ?_
  refine WL_x (x_assign (v := (.int .i64 0)) rfl) ?_
  refine WL_nil ?_
  refine thenE_normal ?_
  refine WC_seq ?_
  refine WC_drawT (m := 16) (listed := [false, false, false, false, false, false, false, false, false, false, false, false, false, false, false, false]) (by kernel_rfl) rfl rfl H ?_
  intro w H
  refine WG_take (i := 2) (listed' := [false, false, true, false, false, false, false, false, false, false, false, false, false, false, false, false]) rfl (by kernel_rfl) (fun w _ => x_move (v := .slice _ _ _) rfl) trivial rfl ?_
  refine WG_take (i := 3) (listed' := [false, false, true, true, false, false, false, false, false, false, false, false, false, false, false, false]) rfl (by kernel_rfl) (fun w _ => x_move (v := .int .i64 _) rfl) trivial rfl ?_
  refine WG_true (S := fun w => St W (row A c 21 1 n (nums .i32 d.toList)).fp [row A c 21 1 n (nums .i32 d.toList)] [] w) (n := 13) rfl ?_
  refine WG_take (i := 0) (listed' := [true, false, true, true, false, false, false, false, false, false, false, false, false, false, false, false]) rfl (by kernel_rfl) (fun w H => x_move (v := .slice _ _ _) rfl) H rfl ?_
  refine WG_take (i := 1) (listed' := [true, true, true, true, false, false, false, false, false, false, false, false, false, false, false, false]) rfl (by kernel_rfl) (fun w H => x_move (v := .int .i64 _) rfl) H rfl ?_
  refine WG_take (i := 4) (listed' := [true, true, true, true, true, false, false, false, false, false, false, false, false, false, false, false]) rfl (by kernel_rfl) (fun w H => x_move (v := .slice _ _ _) rfl) H rfl ?_
  refine WG_take (i := 5) (listed' := [true, true, true, true, true, true, false, false, false, false, false, false, false, false, false, false]) rfl (by kernel_rfl) (fun w H => x_move (v := .int .i64 _) rfl) H rfl ?_
  refine WG_take (i := 6) (listed' := [true, true, true, true, true, true, true, false, false, false, false, false, false, false, false, false]) rfl (by kernel_rfl) (fun w H => x_indexAddr (s := 1) Try.underlying23 (by kernel_rfl) rfl rfl (by omega) (by omega) (by first | rfl | assumption | exact H.rsomen .zero (by omega) | exact H.rsomen (.succ .zero) (by omega) | exact H.rsomen (.succ (.succ .zero)) (by omega) | exact H.osomen .zero (by omega) | exact H.osomen (.succ .zero) (by omega) | exact H.osomen (.succ (.succ .zero)) (by omega)) rfl) H rfl ?_
  first | refine WG_take (i := 7) (listed' := [true, true, true, true, true, true, true, true, false, false, false, false, false, false, false, false]) rfl (by kernel_rfl) (fun w H => x_load (v := .int .i32 _) Try.underlying21 rfl rfl (H.cellAt .zero rfl)) H rfl ?_ | refine WG_take (i := 7) (listed' := [true, true, true, true, true, true, true, true, false, false, false, false, false, false, false, false]) rfl (by kernel_rfl) (fun w H => x_load (v := .int .i32 _) Try.underlying21 rfl rfl (H.cellAt (.succ .zero) rfl)) H rfl ?_ | refine WG_take (i := 7) (listed' := [true, true, true, true, true, true, true, true, false, false, false, false, false, false, false, false]) rfl (by kernel_rfl) (fun w H => x_load (v := .int .i32 _) Try.underlying21 rfl rfl (H.cellAt (.succ (.succ .zero)) rfl)) H rfl ?_ | refine WG_take (i := 7) (listed' := [true, true, true, true, true, true, true, true, false, false, false, false, false, false, false, false]) rfl (by kernel_rfl) (fun w H => x_load (v := .int .i32 _) Try.underlying21 rfl rfl (H.cellAt (.succ (.succ (.succ .zero))) rfl)) H rfl ?_ | refine WG_take (i := 7) (listed' := [true, true, true, true, true, true, true, true, false, false, false, false, false, false, false, false]) rfl (by kernel_rfl) (fun w H => x_load (v := .int .i32 _) Try.underlying21 rfl rfl (H.cellAt (.succ (.succ (.succ (.succ .zero)))) rfl)) H rfl ?_ | refine WG_take (i := 7) (listed' := [true, true, true, true, true, true, true, true, false, false, false, false, false, false, false, false]) rfl (by kernel_rfl) (fun w H => x_load Try.underlying21 rfl rfl (H.rnum .zero (by omega) (by omega))) H rfl ?_ | refine WG_take (i := 7) (listed' := [true, true, true, true, true, true, true, true, false, false, false, false, false, false, false, false]) rfl (by kernel_rfl) (fun w H => x_load Try.underlying21 rfl rfl (H.rnum (.succ .zero) (by omega) (by omega))) H rfl ?_ | refine WG_take (i := 7) (listed' := [true, true, true, true, true, true, true, true, false, false, false, false, false, false, false, false]) rfl (by kernel_rfl) (fun w H => x_load Try.underlying21 rfl rfl (H.rnum (.succ (.succ .zero)) (by omega) (by omega))) H rfl ?_ | refine WG_take (i := 7) (listed' := [true, true, true, true, true, true, true, true, false, false, false, false, false, false, false, false]) rfl (by kernel_rfl) (fun w H => x_load Try.underlying21 rfl rfl (H.onum .zero (by omega) (by omega))) H rfl ?_ | refine WG_take (i := 7) (listed' := [true, true, true, true, true, true, true, true, false, false, false, false, false, false, false, false]) rfl (by kernel_rfl) (fun w H => x_load Try.underlying21 rfl rfl (H.onum (.succ .zero) (by omega) (by omega))) H rfl ?_ | refine WG_take (i := 7) (listed' := [true, true, true, true, true, true, true, true, false, false, false, false, false, false, false, false]) rfl (by kernel_rfl) (fun w H => x_load Try.underlying21 rfl rfl (H.onum (.succ (.succ .zero)) (by omega) (by omega))) H rfl ?_
  refine WG_take (i := 8) (listed' := [true, true, true, true, true, true, true, true, true, false, false, false, false, false, false, false]) rfl (by kernel_rfl) (fun w H => x_move (v := .slice _ _ _) rfl) H rfl ?_
  refine WG_take (i := 9) (listed' := [true, true, true, true, true, true, true, true, true, true, false, false, false, false, false, false]) rfl (by kernel_rfl) (fun w H => x_move (v := .int .i64 _) rfl) H rfl ?_
  refine WG_take (i := 10) (listed' := [true, true, true, true, true, true, true, true, true, true, true, false, false, false, false, false]) rfl (by kernel_rfl) (fun w H => x_indexAddr (s := 1) Try.underlying23 (by kernel_rfl) rfl rfl (by omega) (by omega) (by first | rfl | assumption | exact H.rsomen .zero (by omega) | exact H.rsomen (.succ .zero) (by omega) | exact H.rsomen (.succ (.succ .zero)) (by omega) | exact H.osomen .zero (by omega) | exact H.osomen (.succ .zero) (by omega) | exact H.osomen (.succ (.succ .zero)) (by omega)) rfl) H rfl ?_
  first | refine WG_take (i := 11) (listed' := [true, true, true, true, true, true, true, true, true, true, true, true, false, false, false, false]) rfl (by kernel_rfl) (fun w H => x_load (v := .int .i32 _) Try.underlying21 rfl rfl (H.cellAt .zero rfl)) H rfl ?_ | refine WG_take (i := 11) (listed' := [true, true, true, true, true, true, true, true, true, true, true, true, false, false, false, false]) rfl (by kernel_rfl) (fun w H => x_load (v := .int .i32 _) Try.underlying21 rfl rfl (H.cellAt (.succ .zero) rfl)) H rfl ?_ | refine WG_take (i := 11) (listed' := [true, true, true, true, true, true, true, true, true, true, true, true, false, false, false, false]) rfl (by kernel_rfl) (fun w H => x_load (v := .int .i32 _) Try.underlying21 rfl rfl (H.cellAt (.succ (.succ .zero)) rfl)) H rfl ?_ | refine WG_take (i := 11) (listed' := [true, true, true, true, true, true, true, true, true, true, true, true, false, false, false, false]) rfl (by kernel_rfl) (fun w H => x_load (v := .int .i32 _) Try.underlying21 rfl rfl (H.cellAt (.succ (.succ (.succ .zero))) rfl)) H rfl ?_ | refine WG_take (i := 11) (listed' := [true, true, true, true, true, true, true, true, true, true, true, true, false, false, false, false]) rfl (by kernel_rfl) (fun w H => x_load (v := .int .i32 _) Try.underlying21 rfl rfl (H.cellAt (.succ (.succ (.succ (.succ .zero)))) rfl)) H rfl ?_ | refine WG_take (i := 11) (listed' := [true, true, true, true, true, true, true, true, true, true, true, true, false, false, false, false]) rfl (by kernel_rfl) (fun w H => x_load Try.underlying21 rfl rfl (H.rnum .zero (by omega) (by omega))) H rfl ?_ | refine WG_take (i := 11) (listed' := [true, true, true, true, true, true, true, true, true, true, true, true, false, false, false, false]) rfl (by kernel_rfl) (fun w H => x_load Try.underlying21 rfl rfl (H.rnum (.succ .zero) (by omega) (by omega))) H rfl ?_ | refine WG_take (i := 11) (listed' := [true, true, true, true, true, true, true, true, true, true, true, true, false, false, false, false]) rfl (by kernel_rfl) (fun w H => x_load Try.underlying21 rfl rfl (H.rnum (.succ (.succ .zero)) (by omega) (by omega))) H rfl ?_ | refine WG_take (i := 11) (listed' := [true, true, true, true, true, true, true, true, true, true, true, true, false, false, false, false]) rfl (by kernel_rfl) (fun w H => x_load Try.underlying21 rfl rfl (H.onum .zero (by omega) (by omega))) H rfl ?_ | refine WG_take (i := 11) (listed' := [true, true, true, true, true, true, true, true, true, true, true, true, false, false, false, false]) rfl (by kernel_rfl) (fun w H => x_load Try.underlying21 rfl rfl (H.onum (.succ .zero) (by omega) (by omega))) H rfl ?_ | refine WG_take (i := 11) (listed' := [true, true, true, true, true, true, true, true, true, true, true, true, false, false, false, false]) rfl (by kernel_rfl) (fun w H => x_load Try.underlying21 rfl rfl (H.onum (.succ (.succ .zero)) (by omega) (by omega))) H rfl ?_
  refine WG_take (i := 12) (listed' := [true, true, true, true, true, true, true, true, true, true, true, true, true, false, false, false]) rfl (by kernel_rfl) (fun w H => x_indexAddr (s := 1) Try.underlying23 (by kernel_rfl) rfl rfl (by omega) (by omega) (by first | rfl | assumption | exact H.rsomen .zero (by omega) | exact H.rsomen (.succ .zero) (by omega) | exact H.rsomen (.succ (.succ .zero)) (by omega) | exact H.osomen .zero (by omega) | exact H.osomen (.succ .zero) (by omega) | exact H.osomen (.succ (.succ .zero)) (by omega)) rfl) H rfl ?_
  refine WG_next (fun w => St W (row A c 21 1 n (nums .i32 d.toList)).fp [row A c 21 1 n (nums .i32 (d.setIfInBounds a d[pv]!).toList)] [] w) 15 (listed' := [true, true, true, true, true, true, true, true, true, true, true, true, true, true, false, false]) rfl rfl (by kernel_rfl) rfl ?_
  refine WL_storeR (v := .int .i32 _) (o := a) (n := n) (xs := nums .i32 d.toList) (xs' := nums .i32 (d.setIfInBounds a d[pv]!).toList) Try.underlying21 rfl rfl rfl rfl (by kernel_rfl) (by omega) H .zero (by rw [nums_length]; omega) (nums_setA _ _ _ (nth_at (by omega))) ?_
  clear H; intro w H
  refine WL_nil ?_
  refine nx_mk ?_
  refine WG_take (i := 14) (listed' := [true, true, true, true, true, true, true, true, true, true, true, true, true, true, true, false]) rfl (by kernel_rfl) (fun w H => x_indexAddr (s := 1) Try.underlying23 (by kernel_rfl) rfl rfl (by omega) (by omega) (H.osomen .zero (by rw [len_setA]; omega)) rfl) H rfl ?_
  refine WG_fin (listed' := [true, true, true, true, true, true, true, true, true, true, true, true, true, true, true, true]) rfl rfl (by kernel_rfl) rfl (by kernel_rfl) ?_
  refine WL_storeR (v := .int .i32 _) (o := pv) (n := n) (xs := nums .i32 (d.setIfInBounds a d[pv]!).toList) (xs' := nums .i32 (Go.Sort.swp d a pv).toList) Try.underlying21 rfl rfl rfl rfl (by kernel_rfl) (by omega) H .zero (by rw [nums_length, len_setA]; omega) (nums_setA _ _ _ (nth_at (by omega))) ?_
  clear H; intro w H
  have hM2 : (Go.Sort.swp d a pv).toList.length = n := by rw [len_swp]; exact hM
  refine WL_nil ?_
  refine fin_mk ?_
  refine thenE_normal ?_
  refine WC_seq ?_
  obtain ⟨M, hMe⟩ : ∃ M, M = (Go.Sort.swp d a pv) := ⟨_, rfl⟩
  rw [← hMe] at H hM2
  clear hM
  have hM := hM2
  refine WC_region ?_
  refine WL_x (x_move (v := .int .i64 _) rfl) ?_
  refine WL_x (x_binop rfl rfl (r_add_in (i64_in (by omega) (by omega)))) ?_
  refine WL_x (x_move (v := .int .i64 _) rfl) ?_
  refine WL_x (x_binop rfl rfl (r_sub_in (i64_in (by omega) (by omega)))) ?_
  refine WL_x (x_assign (v := .int .i64 _) rfl) ?_
  refine WL_x (x_assign (v := .int .i64 _) rfl) ?_
  refine WL_nil ?_
  refine thenE_normal ?_
  refine WC_seq ?_
  refine WC_block ?_
  refine WC_while (fun (s : Nat × Nat × Array Int) f w' => a + 1 ≤ s.1 ∧ s.1 ≤ s.2.1 + 2 ∧ a ≤ s.2.1 ∧ s.2.1 < b ∧ s.2.2.toList.length = n ∧ Go.Sort.partEqLoop Go.Sort.ltInt a s.1 s.2.1 s.2.2 = Go.Sort.partEqLoop Go.Sort.ltInt a (a + 1) (b - 1) M ∧ f 9 = .int .i64 s.1 ∧ f 10 = .int .i64 s.2.1 ∧ f 0 = .slice A n c ∧ f 1 = .int .i64 a ∧ St W (row A c 21 1 n (nums .i32 d.toList)).fp [row A c 21 1 n (nums .i32 s.2.2.toList)] [] w') (fun s => s.2.1 + 1 - s.1) (s0 := (a + 1, b - 1, M)) ?_ ?_
  · exact ⟨Nat.le_refl _, by simp only; omega, by simp only; omega, by simp only; omega, hM, rfl, (congrArg (Value.int .i64) (by first | omega | rfl | (simp only; omega))), (congrArg (Value.int .i64) (by first | omega | rfl | (simp only; omega))), rfl, rfl, H⟩
  · clear H hM2
    have hMm := hM
    clear hM
    rintro ⟨i1, j1, K⟩ f w ⟨hb1, hb2, hb3, hb4, hM, hO, h9, h10, h0, h1, H⟩
    simp only at hb1 hb2 hb3 hb4 hM hO h9 h10 h0 h1 H
    rw [← upd_self h9, ← upd_self h10, ← upd_self h0, ← upd_self h1]
    refine WC_block ?_
    refine WC_cut (fun (i : Nat) f w' => i = Go.Sort.scanUp (fun x => !Go.Sort.ltInt K[a]! x) K j1 i1 ∧ i1 ≤ i ∧ i ≤ j1 + 2 ∧ f 9 = .int .i64 i ∧ f 10 = .int .i64 (j1 : Nat) ∧ f 0 = .slice A n c ∧ f 1 = .int .i64 a ∧ St W (row A c 21 1 n (nums .i32 d.toList)).fp [row A c 21 1 n (nums .i32 K.toList)] [] w') ?_ ?_
    · refine WC_block ?_
      refine WC_while (fun (i : Nat) f w' => Go.Sort.scanUp (fun x => !Go.Sort.ltInt K[a]! x) K j1 i = Go.Sort.scanUp (fun x => !Go.Sort.ltInt K[a]! x) K j1 i1 ∧ i1 ≤ i ∧ i ≤ j1 + 2 ∧ f 9 = .int .i64 i ∧ f 10 = .int .i64 (j1 : Nat) ∧ f 0 = .slice A n c ∧ f 1 = .int .i64 a ∧ St W (row A c 21 1 n (nums .i32 d.toList)).fp [row A c 21 1 n (nums .i32 K.toList)] [] w') (fun i => j1 + 1 - i) (s0 := (i1)) ?_ ?_
      · exact ⟨rfl, Nat.le_refl _, by omega, (congrArg (Value.int .i64) (by first | omega | rfl | (simp only; omega))), (congrArg (Value.int .i64) (by first | omega | rfl | (simp only; omega))), rfl, rfl, H⟩
      · clear H
        rintro i f w ⟨hI, hi1, hi2, hfi, hfj, h0, h1, H⟩
        rw [← upd_self hfi, ← upd_self hfj, ← upd_self h0, ← upd_self h1]
        refine WC_seq ?_
        refine WC_seq ?_
        refine WC_drawH (m := 15) (listed := [false, false, false, false, false, false, false, false, false, false, false, false, false, false, false]) 15 (by kernel_rfl) rfl rfl H ?_
        intro w H
        refine WG_take (i := 0) (listed' := [true, false, false, false, false, false, false, false, false, false, false, false, false, false, false]) rfl (by kernel_rfl) (fun w H => x_move (v := .int .i64 _) rfl) H rfl ?_
        refine WG_take (i := 1) (listed' := [true, true, false, false, false, false, false, false, false, false, false, false, false, false, false]) rfl (by kernel_rfl) (fun w H => x_move (v := .int .i64 _) rfl) H rfl ?_
        refine WG_take (i := 2) (listed' := [true, true, true, false, false, false, false, false, false, false, false, false, false, false, false]) rfl (by kernel_rfl) (fun w H => x_binop rfl rfl (r_leq _ _ _ _)) H rfl ?_
        refine WG_take (i := 3) (listed' := [true, true, true, true, false, false, false, false, false, false, false, false, false, false, false]) rfl (by kernel_rfl) (fun w H => x_move (v := .bool _) rfl) H rfl ?_
        first | refine WG_cased (t := 32) rfl (fun h32 => ?_) (fun h32 => ?_) | refine WG_casen (t := 32) rfl (fun h32 => ?_) (fun h32 => ?_) | refine WG_case (t := 32) rfl (fun h32 => ?_) (fun h32 => ?_)
        · refine WG_takeG (i := 4) (listed' := [true, true, true, true, true, false, false, false, false, false, false, false, false, false, false]) rfl (by kernel_rfl) rfl rfl rfl (fun w H => x_move (v := .slice _ _ _) rfl) H rfl ?_
          refine WG_takeG (i := 5) (listed' := [true, true, true, true, true, true, false, false, false, false, false, false, false, false, false]) rfl (by kernel_rfl) rfl rfl rfl (fun w H => x_move (v := .int .i64 _) rfl) H rfl ?_
          refine WG_takeG (i := 6) (listed' := [true, true, true, true, true, true, true, false, false, false, false, false, false, false, false]) rfl (by kernel_rfl) rfl rfl rfl (fun w H => x_indexAddr (s := 1) Try.underlying23 (by kernel_rfl) rfl rfl (by omega) (by omega) (by first | rfl | assumption | exact H.rsomen .zero (by omega) | exact H.rsomen (.succ .zero) (by omega) | exact H.rsomen (.succ (.succ .zero)) (by omega) | exact H.osomen .zero (by omega) | exact H.osomen (.succ .zero) (by omega) | exact H.osomen (.succ (.succ .zero)) (by omega)) rfl) H rfl ?_
          first | refine WG_takeG (i := 7) (listed' := [true, true, true, true, true, true, true, true, false, false, false, false, false, false, false]) rfl (by kernel_rfl) rfl rfl rfl (fun w H => x_load (v := .int .i32 _) Try.underlying21 rfl rfl (H.cellAt .zero rfl)) H rfl ?_ | refine WG_takeG (i := 7) (listed' := [true, true, true, true, true, true, true, true, false, false, false, false, false, false, false]) rfl (by kernel_rfl) rfl rfl rfl (fun w H => x_load (v := .int .i32 _) Try.underlying21 rfl rfl (H.cellAt (.succ .zero) rfl)) H rfl ?_ | refine WG_takeG (i := 7) (listed' := [true, true, true, true, true, true, true, true, false, false, false, false, false, false, false]) rfl (by kernel_rfl) rfl rfl rfl (fun w H => x_load (v := .int .i32 _) Try.underlying21 rfl rfl (H.cellAt (.succ (.succ .zero)) rfl)) H rfl ?_ | refine WG_takeG (i := 7) (listed' := [true, true, true, true, true, true, true, true, false, false, false, false, false, false, false]) rfl (by kernel_rfl) rfl rfl rfl (fun w H => x_load (v := .int .i32 _) Try.underlying21 rfl rfl (H.cellAt (.succ (.succ (.succ .zero))) rfl)) H rfl ?_ | refine WG_takeG (i := 7) (listed' := [true, true, true, true, true, true, true, true, false, false, false, false, false, false, false]) rfl (by kernel_rfl) rfl rfl rfl (fun w H => x_load (v := .int .i32 _) Try.underlying21 rfl rfl (H.cellAt (.succ (.succ (.succ (.succ .zero)))) rfl)) H rfl ?_ | refine WG_takeG (i := 7) (listed' := [true, true, true, true, true, true, true, true, false, false, false, false, false, false, false]) rfl (by kernel_rfl) rfl rfl rfl (fun w H => x_load Try.underlying21 rfl rfl (H.rnum .zero (by omega) (by omega))) H rfl ?_ | refine WG_takeG (i := 7) (listed' := [true, true, true, true, true, true, true, true, false, false, false, false, false, false, false]) rfl (by kernel_rfl) rfl rfl rfl (fun w H => x_load Try.underlying21 rfl rfl (H.rnum (.succ .zero) (by omega) (by omega))) H rfl ?_ | refine WG_takeG (i := 7) (listed' := [true, true, true, true, true, true, true, true, false, false, false, false, false, false, false]) rfl (by kernel_rfl) rfl rfl rfl (fun w H => x_load Try.underlying21 rfl rfl (H.rnum (.succ (.succ .zero)) (by omega) (by omega))) H rfl ?_ | refine WG_takeG (i := 7) (listed' := [true, true, true, true, true, true, true, true, false, false, false, false, false, false, false]) rfl (by kernel_rfl) rfl rfl rfl (fun w H => x_load Try.underlying21 rfl rfl (H.onum .zero (by omega) (by omega))) H rfl ?_ | refine WG_takeG (i := 7) (listed' := [true, true, true, true, true, true, true, true, false, false, false, false, false, false, false]) rfl (by kernel_rfl) rfl rfl rfl (fun w H => x_load Try.underlying21 rfl rfl (H.onum (.succ .zero) (by omega) (by omega))) H rfl ?_ | refine WG_takeG (i := 7) (listed' := [true, true, true, true, true, true, true, true, false, false, false, false, false, false, false]) rfl (by kernel_rfl) rfl rfl rfl (fun w H => x_load Try.underlying21 rfl rfl (H.onum (.succ (.succ .zero)) (by omega) (by omega))) H rfl ?_
          refine WG_takeG (i := 8) (listed' := [true, true, true, true, true, true, true, true, true, false, false, false, false, false, false]) rfl (by kernel_rfl) rfl rfl rfl (fun w H => x_move (v := .slice _ _ _) rfl) H rfl ?_
          refine WG_takeG (i := 9) (listed' := [true, true, true, true, true, true, true, true, true, true, false, false, false, false, false]) rfl (by kernel_rfl) rfl rfl rfl (fun w H => x_move (v := .int .i64 _) rfl) H rfl ?_
          refine WG_takeG (i := 10) (listed' := [true, true, true, true, true, true, true, true, true, true, true, false, false, false, false]) rfl (by kernel_rfl) rfl rfl rfl (fun w H => x_indexAddr (s := 1) Try.underlying23 (by kernel_rfl) rfl rfl (by omega) (by omega) (by first | rfl | assumption | exact H.rsomen .zero (by omega) | exact H.rsomen (.succ .zero) (by omega) | exact H.rsomen (.succ (.succ .zero)) (by omega) | exact H.osomen .zero (by omega) | exact H.osomen (.succ .zero) (by omega) | exact H.osomen (.succ (.succ .zero)) (by omega)) rfl) H rfl ?_
          first | refine WG_takeG (i := 11) (listed' := [true, true, true, true, true, true, true, true, true, true, true, true, false, false, false]) rfl (by kernel_rfl) rfl rfl rfl (fun w H => x_load (v := .int .i32 _) Try.underlying21 rfl rfl (H.cellAt .zero rfl)) H rfl ?_ | refine WG_takeG (i := 11) (listed' := [true, true, true, true, true, true, true, true, true, true, true, true, false, false, false]) rfl (by kernel_rfl) rfl rfl rfl (fun w H => x_load (v := .int .i32 _) Try.underlying21 rfl rfl (H.cellAt (.succ .zero) rfl)) H rfl ?_ | refine WG_takeG (i := 11) (listed' := [true, true, true, true, true, true, true, true, true, true, true, true, false, false, false]) rfl (by kernel_rfl) rfl rfl rfl (fun w H => x_load (v := .int .i32 _) Try.underlying21 rfl rfl (H.cellAt (.succ (.succ .zero)) rfl)) H rfl ?_ | refine WG_takeG (i := 11) (listed' := [true, true, true, true, true, true, true, true, true, true, true, true, false, false, false]) rfl (by kernel_rfl) rfl rfl rfl (fun w H => x_load (v := .int .i32 _) Try.underlying21 rfl rfl (H.cellAt (.succ (.succ (.succ .zero))) rfl)) H rfl ?_ | refine WG_takeG (i := 11) (listed' := [true, true, true, true, true, true, true, true, true, true, true, true, false, false, false]) rfl (by kernel_rfl) rfl rfl rfl (fun w H => x_load (v := .int .i32 _) Try.underlying21 rfl rfl (H.cellAt (.succ (.succ (.succ (.succ .zero)))) rfl)) H rfl ?_ | refine WG_takeG (i := 11) (listed' := [true, true, true, true, true, true, true, true, true, true, true, true, false, false, false]) rfl (by kernel_rfl) rfl rfl rfl (fun w H => x_load Try.underlying21 rfl rfl (H.rnum .zero (by omega) (by omega))) H rfl ?_ | refine WG_takeG (i := 11) (listed' := [true, true, true, true, true, true, true, true, true, true, true, true, false, false, false]) rfl (by kernel_rfl) rfl rfl rfl (fun w H => x_load Try.underlying21 rfl rfl (H.rnum (.succ .zero) (by omega) (by omega))) H rfl ?_ | refine WG_takeG (i := 11) (listed' := [true, true, true, true, true, true, true, true, true, true, true, true, false, false, false]) rfl (by kernel_rfl) rfl rfl rfl (fun w H => x_load Try.underlying21 rfl rfl (H.rnum (.succ (.succ .zero)) (by omega) (by omega))) H rfl ?_ | refine WG_takeG (i := 11) (listed' := [true, true, true, true, true, true, true, true, true, true, true, true, false, false, false]) rfl (by kernel_rfl) rfl rfl rfl (fun w H => x_load Try.underlying21 rfl rfl (H.onum .zero (by omega) (by omega))) H rfl ?_ | refine WG_takeG (i := 11) (listed' := [true, true, true, true, true, true, true, true, true, true, true, true, false, false, false]) rfl (by kernel_rfl) rfl rfl rfl (fun w H => x_load Try.underlying21 rfl rfl (H.onum (.succ .zero) (by omega) (by omega))) H rfl ?_ | refine WG_takeG (i := 11) (listed' := [true, true, true, true, true, true, true, true, true, true, true, true, false, false, false]) rfl (by kernel_rfl) rfl rfl rfl (fun w H => x_load Try.underlying21 rfl rfl (H.onum (.succ (.succ .zero)) (by omega) (by omega))) H rfl ?_
          refine WG_midG (i := 12) (listed' := [true, true, true, true, true, true, true, true, true, true, true, true, true, false, false]) rfl rfl rfl rfl rfl (by kernel_rfl) rfl rfl ?_
          refine WL_guard_yes rfl rfl rfl ?_
          refine WL_call (vs := [.int .i32 _, .int .i32 _]) Try.func23 rfl rfl rfl (less_i32 _ _ _) ?_
          rintro _ w ⟨rfl, hf⟩
          refine ⟨_, rfl, ?_⟩
          replace H := H.quiet hf
          refine WL_nil ?_
          refine mid_mk H ?_
          refine WG_takeG (i := 13) (listed' := [true, true, true, true, true, true, true, true, true, true, true, true, true, true, false]) rfl (by kernel_rfl) rfl rfl rfl (fun w H => x_not rfl) H rfl ?_
          refine WG_take (i := 14) (listed' := [true, true, true, true, true, true, true, true, true, true, true, true, true, true, true]) rfl (by kernel_rfl) (fun w H => x_pick (v := .bool _) rfl rfl) H rfl ?_
          refine WG_done (by kernel_rfl) ?_
          refine thenE_normal ?_
          refine WC_ifn rfl (fun h43 => ?_) (fun h43 => ?_)
          · have hK := scanUp_go (p := (fun x => !Go.Sort.ltInt K[a]! x)) (d := K) (j := j1) (i := i) (by omega) (by exact lt_nyes h43 (by omega) (by omega))
            refine WC_skip ?_
            refine thenE_normal ?_
            refine WC_block ?_
            refine WC_region ?_
            refine WL_x (x_move (v := .int .i64 _) rfl) ?_
            refine WL_x (x_binop rfl rfl (r_add_in (i64_in (by omega) (by omega)))) ?_
            refine WL_x (x_assign (v := .int .i64 _) rfl) ?_
            refine WL_nil ?_
            refine inBlockE_normal ?_
            refine thenE_normal ?_
            exact ⟨i + 1, ⟨by rw [← hI, hK], by omega, by omega, (congrArg (Value.int .i64) (by first | omega | rfl | (simp only; omega))), rfl, rfl, rfl, H⟩, by omega⟩
          · have hK := scanUp_end (p := (fun x => !Go.Sort.ltInt K[a]! x)) (d := K) (j := j1) (i := i) (.inr (by exact lt_nno h43 (by omega) (by omega)))
            refine WC_exit ?_
            refine thenE_exit ?_
            refine thenE_exit ?_
            refine inBlockE_exit ?_
            refine thenE_normal ?_
            exact ⟨i, by rw [← hI, hK], by omega, by omega, rfl, rfl, rfl, rfl, H⟩
        · have hK := scanUp_end (p := (fun x => !Go.Sort.ltInt K[a]! x)) (d := K) (j := j1) (i := i) (.inl (by omega))
          refine WG_skip (i := 4) (listed' := [true, true, true, true, true, false, false, false, false, false, false, false, false, false, false]) rfl (by kernel_rfl) rfl rfl rfl H rfl ?_
          refine WG_skip (i := 5) (listed' := [true, true, true, true, true, true, false, false, false, false, false, false, false, false, false]) rfl (by kernel_rfl) rfl rfl rfl H rfl ?_
          refine WG_skip (i := 6) (listed' := [true, true, true, true, true, true, true, false, false, false, false, false, false, false, false]) rfl (by kernel_rfl) rfl rfl rfl H rfl ?_
          refine WG_skip (i := 7) (listed' := [true, true, true, true, true, true, true, true, false, false, false, false, false, false, false]) rfl (by kernel_rfl) rfl rfl rfl H rfl ?_
          refine WG_skip (i := 8) (listed' := [true, true, true, true, true, true, true, true, true, false, false, false, false, false, false]) rfl (by kernel_rfl) rfl rfl rfl H rfl ?_
          refine WG_skip (i := 9) (listed' := [true, true, true, true, true, true, true, true, true, true, false, false, false, false, false]) rfl (by kernel_rfl) rfl rfl rfl H rfl ?_
          refine WG_skip (i := 10) (listed' := [true, true, true, true, true, true, true, true, true, true, true, false, false, false, false]) rfl (by kernel_rfl) rfl rfl rfl H rfl ?_
          refine WG_skip (i := 11) (listed' := [true, true, true, true, true, true, true, true, true, true, true, true, false, false, false]) rfl (by kernel_rfl) rfl rfl rfl H rfl ?_
          refine WG_skip (i := 12) (listed' := [true, true, true, true, true, true, true, true, true, true, true, true, true, false, false]) rfl (by kernel_rfl) rfl rfl rfl H rfl ?_
          refine WG_skip (i := 13) (listed' := [true, true, true, true, true, true, true, true, true, true, true, true, true, true, false]) rfl (by kernel_rfl) rfl rfl rfl H rfl ?_
          refine WG_take (i := 14) (listed' := [true, true, true, true, true, true, true, true, true, true, true, true, true, true, true]) rfl (by kernel_rfl) (fun w H => x_pick (v := .bool _) rfl rfl) H rfl ?_
          refine WG_done (by kernel_rfl) ?_
          refine thenE_normal ?_
          refine WC_no rfl ?_
          refine WC_exit ?_
          refine thenE_exit ?_
          refine thenE_exit ?_
          refine inBlockE_exit ?_
          refine thenE_normal ?_
          exact ⟨i, by rw [← hI, hK], by omega, by omega, rfl, rfl, rfl, rfl, H⟩
    · clear H
      rintro i f w ⟨hi, hi1, hi2, hfi, hfj, h0, h1, H⟩
      rw [← upd_self hfi, ← upd_self hfj, ← upd_self h0, ← upd_self h1]
      have hij : i ≤ j1 + 2 := by omega
      refine WC_cut (fun (j : Nat) f w' => j = Go.Sort.scanDown (fun x => Go.Sort.ltInt K[a]! x) K i j1 ∧ i ≤ j + 2 ∧ j ≤ j1 ∧ f 10 = .int .i64 j ∧ f 9 = .int .i64 i ∧ f 0 = .slice A n c ∧ f 1 = .int .i64 a ∧ St W (row A c 21 1 n (nums .i32 d.toList)).fp [row A c 21 1 n (nums .i32 K.toList)] [] w') ?_ ?_
      · refine WC_block ?_
        refine WC_while (fun (j : Nat) f w' => Go.Sort.scanDown (fun x => Go.Sort.ltInt K[a]! x) K i j = Go.Sort.scanDown (fun x => Go.Sort.ltInt K[a]! x) K i j1 ∧ i ≤ j + 2 ∧ j ≤ j1 ∧ f 10 = .int .i64 j ∧ f 9 = .int .i64 i ∧ f 0 = .slice A n c ∧ f 1 = .int .i64 a ∧ St W (row A c 21 1 n (nums .i32 d.toList)).fp [row A c 21 1 n (nums .i32 K.toList)] [] w') (fun j => j) (s0 := (j1)) ?_ ?_
        · exact ⟨rfl, hij, Nat.le_refl _, (congrArg (Value.int .i64) (by first | omega | rfl | (simp only; omega))), (congrArg (Value.int .i64) (by first | omega | rfl | (simp only; omega))), rfl, rfl, H⟩
        · clear H
          rintro j f w ⟨hI, hj1, hj2, hfj, hfi, h0, h1, H⟩
          rw [← upd_self hfi, ← upd_self hfj, ← upd_self h0, ← upd_self h1]
          refine WC_seq ?_
          refine WC_seq ?_
          refine WC_drawH (m := 14) (listed := [false, false, false, false, false, false, false, false, false, false, false, false, false, false]) 14 (by kernel_rfl) rfl rfl H ?_
          intro w H
          refine WG_take (i := 0) (listed' := [true, false, false, false, false, false, false, false, false, false, false, false, false, false]) rfl (by kernel_rfl) (fun w H => x_move (v := .int .i64 _) rfl) H rfl ?_
          refine WG_take (i := 1) (listed' := [true, true, false, false, false, false, false, false, false, false, false, false, false, false]) rfl (by kernel_rfl) (fun w H => x_move (v := .int .i64 _) rfl) H rfl ?_
          refine WG_take (i := 2) (listed' := [true, true, true, false, false, false, false, false, false, false, false, false, false, false]) rfl (by kernel_rfl) (fun w H => x_binop rfl rfl (r_leq _ _ _ _)) H rfl ?_
          refine WG_take (i := 3) (listed' := [true, true, true, true, false, false, false, false, false, false, false, false, false, false]) rfl (by kernel_rfl) (fun w H => x_move (v := .bool _) rfl) H rfl ?_
          first | refine WG_cased (t := 49) rfl (fun h49 => ?_) (fun h49 => ?_) | refine WG_casen (t := 49) rfl (fun h49 => ?_) (fun h49 => ?_) | refine WG_case (t := 49) rfl (fun h49 => ?_) (fun h49 => ?_)
          · obtain ⟨j, rfl⟩ : ∃ j9, j = j9 + 1 := ⟨j - 1, by omega⟩
            refine WG_takeG (i := 4) (listed' := [true, true, true, true, true, false, false, false, false, false, false, false, false, false]) rfl (by kernel_rfl) rfl rfl rfl (fun w H => x_move (v := .slice _ _ _) rfl) H rfl ?_
            refine WG_takeG (i := 5) (listed' := [true, true, true, true, true, true, false, false, false, false, false, false, false, false]) rfl (by kernel_rfl) rfl rfl rfl (fun w H => x_move (v := .int .i64 _) rfl) H rfl ?_
            refine WG_takeG (i := 6) (listed' := [true, true, true, true, true, true, true, false, false, false, false, false, false, false]) rfl (by kernel_rfl) rfl rfl rfl (fun w H => x_indexAddr (s := 1) Try.underlying23 (by kernel_rfl) rfl rfl (by omega) (by omega) (by first | rfl | assumption | exact H.rsomen .zero (by omega) | exact H.rsomen (.succ .zero) (by omega) | exact H.rsomen (.succ (.succ .zero)) (by omega) | exact H.osomen .zero (by omega) | exact H.osomen (.succ .zero) (by omega) | exact H.osomen (.succ (.succ .zero)) (by omega)) rfl) H rfl ?_
            first | refine WG_takeG (i := 7) (listed' := [true, true, true, true, true, true, true, true, false, false, false, false, false, false]) rfl (by kernel_rfl) rfl rfl rfl (fun w H => x_load (v := .int .i32 _) Try.underlying21 rfl rfl (H.cellAt .zero rfl)) H rfl ?_ | refine WG_takeG (i := 7) (listed' := [true, true, true, true, true, true, true, true, false, false, false, false, false, false]) rfl (by kernel_rfl) rfl rfl rfl (fun w H => x_load (v := .int .i32 _) Try.underlying21 rfl rfl (H.cellAt (.succ .zero) rfl)) H rfl ?_ | refine WG_takeG (i := 7) (listed' := [true, true, true, true, true, true, true, true, false, false, false, false, false, false]) rfl (by kernel_rfl) rfl rfl rfl (fun w H => x_load (v := .int .i32 _) Try.underlying21 rfl rfl (H.cellAt (.succ (.succ .zero)) rfl)) H rfl ?_ | refine WG_takeG (i := 7) (listed' := [true, true, true, true, true, true, true, true, false, false, false, false, false, false]) rfl (by kernel_rfl) rfl rfl rfl (fun w H => x_load (v := .int .i32 _) Try.underlying21 rfl rfl (H.cellAt (.succ (.succ (.succ .zero))) rfl)) H rfl ?_ | refine WG_takeG (i := 7) (listed' := [true, true, true, true, true, true, true, true, false, false, false, false, false, false]) rfl (by kernel_rfl) rfl rfl rfl (fun w H => x_load (v := .int .i32 _) Try.underlying21 rfl rfl (H.cellAt (.succ (.succ (.succ (.succ .zero)))) rfl)) H rfl ?_ | refine WG_takeG (i := 7) (listed' := [true, true, true, true, true, true, true, true, false, false, false, false, false, false]) rfl (by kernel_rfl) rfl rfl rfl (fun w H => x_load Try.underlying21 rfl rfl (H.rnum .zero (by omega) (by omega))) H rfl ?_ | refine WG_takeG (i := 7) (listed' := [true, true, true, true, true, true, true, true, false, false, false, false, false, false]) rfl (by kernel_rfl) rfl rfl rfl (fun w H => x_load Try.underlying21 rfl rfl (H.rnum (.succ .zero) (by omega) (by omega))) H rfl ?_ | refine WG_takeG (i := 7) (listed' := [true, true, true, true, true, true, true, true, false, false, false, false, false, false]) rfl (by kernel_rfl) rfl rfl rfl (fun w H => x_load Try.underlying21 rfl rfl (H.rnum (.succ (.succ .zero)) (by omega) (by omega))) H rfl ?_ | refine WG_takeG (i := 7) (listed' := [true, true, true, true, true, true, true, true, false, false, false, false, false, false]) rfl (by kernel_rfl) rfl rfl rfl (fun w H => x_load Try.underlying21 rfl rfl (H.onum .zero (by omega) (by omega))) H rfl ?_ | refine WG_takeG (i := 7) (listed' := [true, true, true, true, true, true, true, true, false, false, false, false, false, false]) rfl (by kernel_rfl) rfl rfl rfl (fun w H => x_load Try.underlying21 rfl rfl (H.onum (.succ .zero) (by omega) (by omega))) H rfl ?_ | refine WG_takeG (i := 7) (listed' := [true, true, true, true, true, true, true, true, false, false, false, false, false, false]) rfl (by kernel_rfl) rfl rfl rfl (fun w H => x_load Try.underlying21 rfl rfl (H.onum (.succ (.succ .zero)) (by omega) (by omega))) H rfl ?_
            refine WG_takeG (i := 8) (listed' := [true, true, true, true, true, true, true, true, true, false, false, false, false, false]) rfl (by kernel_rfl) rfl rfl rfl (fun w H => x_move (v := .slice _ _ _) rfl) H rfl ?_
            refine WG_takeG (i := 9) (listed' := [true, true, true, true, true, true, true, true, true, true, false, false, false, false]) rfl (by kernel_rfl) rfl rfl rfl (fun w H => x_move (v := .int .i64 _) rfl) H rfl ?_
            refine WG_takeG (i := 10) (listed' := [true, true, true, true, true, true, true, true, true, true, true, false, false, false]) rfl (by kernel_rfl) rfl rfl rfl (fun w H => x_indexAddr (s := 1) Try.underlying23 (by kernel_rfl) rfl rfl (by omega) (by omega) (by first | rfl | assumption | exact H.rsomen .zero (by omega) | exact H.rsomen (.succ .zero) (by omega) | exact H.rsomen (.succ (.succ .zero)) (by omega) | exact H.osomen .zero (by omega) | exact H.osomen (.succ .zero) (by omega) | exact H.osomen (.succ (.succ .zero)) (by omega)) rfl) H rfl ?_
            first | refine WG_takeG (i := 11) (listed' := [true, true, true, true, true, true, true, true, true, true, true, true, false, false]) rfl (by kernel_rfl) rfl rfl rfl (fun w H => x_load (v := .int .i32 _) Try.underlying21 rfl rfl (H.cellAt .zero rfl)) H rfl ?_ | refine WG_takeG (i := 11) (listed' := [true, true, true, true, true, true, true, true, true, true, true, true, false, false]) rfl (by kernel_rfl) rfl rfl rfl (fun w H => x_load (v := .int .i32 _) Try.underlying21 rfl rfl (H.cellAt (.succ .zero) rfl)) H rfl ?_ | refine WG_takeG (i := 11) (listed' := [true, true, true, true, true, true, true, true, true, true, true, true, false, false]) rfl (by kernel_rfl) rfl rfl rfl (fun w H => x_load (v := .int .i32 _) Try.underlying21 rfl rfl (H.cellAt (.succ (.succ .zero)) rfl)) H rfl ?_ | refine WG_takeG (i := 11) (listed' := [true, true, true, true, true, true, true, true, true, true, true, true, false, false]) rfl (by kernel_rfl) rfl rfl rfl (fun w H => x_load (v := .int .i32 _) Try.underlying21 rfl rfl (H.cellAt (.succ (.succ (.succ .zero))) rfl)) H rfl ?_ | refine WG_takeG (i := 11) (listed' := [true, true, true, true, true, true, true, true, true, true, true, true, false, false]) rfl (by kernel_rfl) rfl rfl rfl (fun w H => x_load (v := .int .i32 _) Try.underlying21 rfl rfl (H.cellAt (.succ (.succ (.succ (.succ .zero)))) rfl)) H rfl ?_ | refine WG_takeG (i := 11) (listed' := [true, true, true, true, true, true, true, true, true, true, true, true, false, false]) rfl (by kernel_rfl) rfl rfl rfl (fun w H => x_load Try.underlying21 rfl rfl (H.rnum .zero (by omega) (by omega))) H rfl ?_ | refine WG_takeG (i := 11) (listed' := [true, true, true, true, true, true, true, true, true, true, true, true, false, false]) rfl (by kernel_rfl) rfl rfl rfl (fun w H => x_load Try.underlying21 rfl rfl (H.rnum (.succ .zero) (by omega) (by omega))) H rfl ?_ | refine WG_takeG (i := 11) (listed' := [true, true, true, true, true, true, true, true, true, true, true, true, false, false]) rfl (by kernel_rfl) rfl rfl rfl (fun w H => x_load Try.underlying21 rfl rfl (H.rnum (.succ (.succ .zero)) (by omega) (by omega))) H rfl ?_ | refine WG_takeG (i := 11) (listed' := [true, true, true, true, true, true, true, true, true, true, true, true, false, false]) rfl (by kernel_rfl) rfl rfl rfl (fun w H => x_load Try.underlying21 rfl rfl (H.onum .zero (by omega) (by omega))) H rfl ?_ | refine WG_takeG (i := 11) (listed' := [true, true, true, true, true, true, true, true, true, true, true, true, false, false]) rfl (by kernel_rfl) rfl rfl rfl (fun w H => x_load Try.underlying21 rfl rfl (H.onum (.succ .zero) (by omega) (by omega))) H rfl ?_ | refine WG_takeG (i := 11) (listed' := [true, true, true, true, true, true, true, true, true, true, true, true, false, false]) rfl (by kernel_rfl) rfl rfl rfl (fun w H => x_load Try.underlying21 rfl rfl (H.onum (.succ (.succ .zero)) (by omega) (by omega))) H rfl ?_
            refine WG_midG (i := 12) (listed' := [true, true, true, true, true, true, true, true, true, true, true, true, true, false]) rfl rfl rfl rfl rfl (by kernel_rfl) rfl rfl ?_
            refine WL_guard_yes rfl rfl rfl ?_
            refine WL_call (vs := [.int .i32 _, .int .i32 _]) Try.func23 rfl rfl rfl (less_i32 _ _ _) ?_
            rintro _ w ⟨rfl, hf⟩
            refine ⟨_, rfl, ?_⟩
            replace H := H.quiet hf
            refine WL_nil ?_
            refine mid_mk H ?_
            refine WG_take (i := 13) (listed' := [true, true, true, true, true, true, true, true, true, true, true, true, true, true]) rfl (by kernel_rfl) (fun w H => x_pick (v := .bool _) rfl rfl) H rfl ?_
            refine WG_done (by kernel_rfl) ?_
            refine thenE_normal ?_
            refine WC_ifd rfl (fun h59 => ?_) (fun h59 => ?_)
            · have hK := scanDown_go (p := (fun x => Go.Sort.ltInt K[a]! x)) (d := K) (i := i) (j := j) (by omega) (by exact lt_yes h59 (by omega) (by omega))
              refine WC_skip ?_
              refine thenE_normal ?_
              refine WC_block ?_
              refine WC_region ?_
              refine WL_x (x_move (v := .int .i64 _) rfl) ?_
              refine WL_x (x_binop rfl rfl (r_sub_in (i64_in (by omega) (by omega)))) ?_
              refine WL_x (x_assign (v := .int .i64 _) rfl) ?_
              refine WL_nil ?_
              refine inBlockE_normal ?_
              refine thenE_normal ?_
              exact ⟨j, ⟨by rw [← hI, hK], by omega, by omega, (congrArg (Value.int .i64) (by first | omega | rfl | (simp only; omega))), rfl, rfl, rfl, H⟩, by omega⟩
            · have hK := scanDown_end (p := (fun x => Go.Sort.ltInt K[a]! x)) (d := K) (i := i) (j := j + 1) (by omega) (.inr (by exact lt_no h59 (by omega) (by omega)))
              refine WC_exit ?_
              refine thenE_exit ?_
              refine thenE_exit ?_
              refine inBlockE_exit ?_
              refine thenE_normal ?_
              first
                | exact ⟨j, by rw [← hI, hK], by omega, by omega, rfl, rfl, rfl, rfl, H⟩
                | exact ⟨j + 1, by rw [← hI, hK], by omega, by omega, rfl, rfl, rfl, rfl, H⟩
          · have hK := scanDown_end (p := (fun x => Go.Sort.ltInt K[a]! x)) (d := K) (i := i) (j := j) (by omega) (.inl (by omega))
            refine WG_skip (i := 4) (listed' := [true, true, true, true, true, false, false, false, false, false, false, false, false, false]) rfl (by kernel_rfl) rfl rfl rfl H rfl ?_
            refine WG_skip (i := 5) (listed' := [true, true, true, true, true, true, false, false, false, false, false, false, false, false]) rfl (by kernel_rfl) rfl rfl rfl H rfl ?_
            refine WG_skip (i := 6) (listed' := [true, true, true, true, true, true, true, false, false, false, false, false, false, false]) rfl (by kernel_rfl) rfl rfl rfl H rfl ?_
            refine WG_skip (i := 7) (listed' := [true, true, true, true, true, true, true, true, false, false, false, false, false, false]) rfl (by kernel_rfl) rfl rfl rfl H rfl ?_
            refine WG_skip (i := 8) (listed' := [true, true, true, true, true, true, true, true, true, false, false, false, false, false]) rfl (by kernel_rfl) rfl rfl rfl H rfl ?_
            refine WG_skip (i := 9) (listed' := [true, true, true, true, true, true, true, true, true, true, false, false, false, false]) rfl (by kernel_rfl) rfl rfl rfl H rfl ?_
            refine WG_skip (i := 10) (listed' := [true, true, true, true, true, true, true, true, true, true, true, false, false, false]) rfl (by kernel_rfl) rfl rfl rfl H rfl ?_
            refine WG_skip (i := 11) (listed' := [true, true, true, true, true, true, true, true, true, true, true, true, false, false]) rfl (by kernel_rfl) rfl rfl rfl H rfl ?_
            refine WG_skip (i := 12) (listed' := [true, true, true, true, true, true, true, true, true, true, true, true, true, false]) rfl (by kernel_rfl) rfl rfl rfl H rfl ?_
            refine WG_take (i := 13) (listed' := [true, true, true, true, true, true, true, true, true, true, true, true, true, true]) rfl (by kernel_rfl) (fun w H => x_pick (v := .bool _) rfl rfl) H rfl ?_
            refine WG_done (by kernel_rfl) ?_
            refine thenE_normal ?_
            refine WC_no rfl ?_
            refine WC_exit ?_
            refine thenE_exit ?_
            refine thenE_exit ?_
            refine inBlockE_exit ?_
            refine thenE_normal ?_
            first
              | exact ⟨j, by rw [← hI, hK], by omega, by omega, rfl, rfl, rfl, rfl, H⟩
              | exact ⟨j + 1, by rw [← hI, hK], by omega, by omega, rfl, rfl, rfl, rfl, H⟩
      · clear H
        rintro j f w ⟨hj, hj1, hj2, hfj, hfi, h0, h1, H⟩
        rw [← upd_self hfi, ← upd_self hfj, ← upd_self h0, ← upd_self h1]
        refine WC_seq ?_
        refine WC_seq ?_
        refine WC_region ?_
        refine WL_x (x_move (v := .int .i64 _) rfl) ?_
        refine WL_x (x_move (v := .int .i64 _) rfl) ?_
        refine WL_x (x_binop rfl rfl (r_gtr _ _ _ _)) ?_
        refine WL_nil ?_
        refine thenE_normal ?_
        refine WC_ifd rfl (fun h64 => ?_) (fun h64 => ?_)
        · have hstop := partEqLoop_stop (a := a) hi hj (by omega)
          have hR : Go.Sort.partitionEqual Go.Sort.ltInt d a b pv = (i, K) := by rw [Go.Sort.partitionEqual, ← hMe, ← hO, hstop]
          refine WC_exit ?_
          refine thenE_exit ?_
          refine inBlockE_other rfl ?_
          refine thenE_exit ?_
          refine inBlockE_exit ?_
          refine thenE_normal ?_
          refine WC_seq ?_
          refine WC_region ?_
          refine WL_x (x_move (v := .int .i64 _) rfl) ?_
          refine WL_x (x_assign (v := .int .i64 _) rfl) ?_
          refine WL_nil ?_
          refine thenE_normal ?_
          refine WC_ret ?_
          refine ends1 (v := .int .i64 _) Try.results24 rfl ?_
          rw [hR]; exact ⟨rfl, H.fr, H.ok _ List.mem_cons_self⟩
        · refine WC_skip ?_
          refine thenE_normal ?_
          refine WC_seq ?_
          refine WC_drawT (m := 16) (listed := [false, false, false, false, false, false, false, false, false, false, false, false, false, false, false, false]) (by kernel_rfl) rfl rfl H ?_
          intro w H
          refine WG_take (i := 2) (listed' := [false, false, true, false, false, false, false, false, false, false, false, false, false, false, false, false]) rfl (by kernel_rfl) (fun w _ => x_move (v := .slice _ _ _) rfl) trivial rfl ?_
          refine WG_take (i := 3) (listed' := [false, false, true, true, false, false, false, false, false, false, false, false, false, false, false, false]) rfl (by kernel_rfl) (fun w _ => x_move (v := .int .i64 _) rfl) trivial rfl ?_
          refine WG_true (S := fun w => St W (row A c 21 1 n (nums .i32 d.toList)).fp [row A c 21 1 n (nums .i32 K.toList)] [] w) (n := 13) rfl ?_
          refine WG_take (i := 0) (listed' := [true, false, true, true, false, false, false, false, false, false, false, false, false, false, false, false]) rfl (by kernel_rfl) (fun w H => x_move (v := .slice _ _ _) rfl) H rfl ?_
          refine WG_take (i := 1) (listed' := [true, true, true, true, false, false, false, false, false, false, false, false, false, false, false, false]) rfl (by kernel_rfl) (fun w H => x_move (v := .int .i64 _) rfl) H rfl ?_
          refine WG_take (i := 4) (listed' := [true, true, true, true, true, false, false, false, false, false, false, false, false, false, false, false]) rfl (by kernel_rfl) (fun w H => x_move (v := .slice _ _ _) rfl) H rfl ?_
          refine WG_take (i := 5) (listed' := [true, true, true, true, true, true, false, false, false, false, false, false, false, false, false, false]) rfl (by kernel_rfl) (fun w H => x_move (v := .int .i64 _) rfl) H rfl ?_
          refine WG_take (i := 6) (listed' := [true, true, true, true, true, true, true, false, false, false, false, false, false, false, false, false]) rfl (by kernel_rfl) (fun w H => x_indexAddr (s := 1) Try.underlying23 (by kernel_rfl) rfl rfl (by omega) (by omega) (by first | rfl | assumption | exact H.rsomen .zero (by omega) | exact H.rsomen (.succ .zero) (by omega) | exact H.rsomen (.succ (.succ .zero)) (by omega) | exact H.osomen .zero (by omega) | exact H.osomen (.succ .zero) (by omega) | exact H.osomen (.succ (.succ .zero)) (by omega)) rfl) H rfl ?_
          first | refine WG_take (i := 7) (listed' := [true, true, true, true, true, true, true, true, false, false, false, false, false, false, false, false]) rfl (by kernel_rfl) (fun w H => x_load (v := .int .i32 _) Try.underlying21 rfl rfl (H.cellAt .zero rfl)) H rfl ?_ | refine WG_take (i := 7) (listed' := [true, true, true, true, true, true, true, true, false, false, false, false, false, false, false, false]) rfl (by kernel_rfl) (fun w H => x_load (v := .int .i32 _) Try.underlying21 rfl rfl (H.cellAt (.succ .zero) rfl)) H rfl ?_ | refine WG_take (i := 7) (listed' := [true, true, true, true, true, true, true, true, false, false, false, false, false, false, false, false]) rfl (by kernel_rfl) (fun w H => x_load (v := .int .i32 _) Try.underlying21 rfl rfl (H.cellAt (.succ (.succ .zero)) rfl)) H rfl ?_ | refine WG_take (i := 7) (listed' := [true, true, true, true, true, true, true, true, false, false, false, false, false, false, false, false]) rfl (by kernel_rfl) (fun w H => x_load (v := .int .i32 _) Try.underlying21 rfl rfl (H.cellAt (.succ (.succ (.succ .zero))) rfl)) H rfl ?_ | refine WG_take (i := 7) (listed' := [true, true, true, true, true, true, true, true, false, false, false, false, false, false, false, false]) rfl (by kernel_rfl) (fun w H => x_load (v := .int .i32 _) Try.underlying21 rfl rfl (H.cellAt (.succ (.succ (.succ (.succ .zero)))) rfl)) H rfl ?_ | refine WG_take (i := 7) (listed' := [true, true, true, true, true, true, true, true, false, false, false, false, false, false, false, false]) rfl (by kernel_rfl) (fun w H => x_load Try.underlying21 rfl rfl (H.rnum .zero (by omega) (by omega))) H rfl ?_ | refine WG_take (i := 7) (listed' := [true, true, true, true, true, true, true, true, false, false, false, false, false, false, false, false]) rfl (by kernel_rfl) (fun w H => x_load Try.underlying21 rfl rfl (H.rnum (.succ .zero) (by omega) (by omega))) H rfl ?_ | refine WG_take (i := 7) (listed' := [true, true, true, true, true, true, true, true, false, false, false, false, false, false, false, false]) rfl (by kernel_rfl) (fun w H => x_load Try.underlying21 rfl rfl (H.rnum (.succ (.succ .zero)) (by omega) (by omega))) H rfl ?_ | refine WG_take (i := 7) (listed' := [true, true, true, true, true, true, true, true, false, false, false, false, false, false, false, false]) rfl (by kernel_rfl) (fun w H => x_load Try.underlying21 rfl rfl (H.onum .zero (by omega) (by omega))) H rfl ?_ | refine WG_take (i := 7) (listed' := [true, true, true, true, true, true, true, true, false, false, false, false, false, false, false, false]) rfl (by kernel_rfl) (fun w H => x_load Try.underlying21 rfl rfl (H.onum (.succ .zero) (by omega) (by omega))) H rfl ?_ | refine WG_take (i := 7) (listed' := [true, true, true, true, true, true, true, true, false, false, false, false, false, false, false, false]) rfl (by kernel_rfl) (fun w H => x_load Try.underlying21 rfl rfl (H.onum (.succ (.succ .zero)) (by omega) (by omega))) H rfl ?_
          refine WG_take (i := 8) (listed' := [true, true, true, true, true, true, true, true, true, false, false, false, false, false, false, false]) rfl (by kernel_rfl) (fun w H => x_move (v := .slice _ _ _) rfl) H rfl ?_
          refine WG_take (i := 9) (listed' := [true, true, true, true, true, true, true, true, true, true, false, false, false, false, false, false]) rfl (by kernel_rfl) (fun w H => x_move (v := .int .i64 _) rfl) H rfl ?_
          refine WG_take (i := 10) (listed' := [true, true, true, true, true, true, true, true, true, true, true, false, false, false, false, false]) rfl (by kernel_rfl) (fun w H => x_indexAddr (s := 1) Try.underlying23 (by kernel_rfl) rfl rfl (by omega) (by omega) (by first | rfl | assumption | exact H.rsomen .zero (by omega) | exact H.rsomen (.succ .zero) (by omega) | exact H.rsomen (.succ (.succ .zero)) (by omega) | exact H.osomen .zero (by omega) | exact H.osomen (.succ .zero) (by omega) | exact H.osomen (.succ (.succ .zero)) (by omega)) rfl) H rfl ?_
          first | refine WG_take (i := 11) (listed' := [true, true, true, true, true, true, true, true, true, true, true, true, false, false, false, false]) rfl (by kernel_rfl) (fun w H => x_load (v := .int .i32 _) Try.underlying21 rfl rfl (H.cellAt .zero rfl)) H rfl ?_ | refine WG_take (i := 11) (listed' := [true, true, true, true, true, true, true, true, true, true, true, true, false, false, false, false]) rfl (by kernel_rfl) (fun w H => x_load (v := .int .i32 _) Try.underlying21 rfl rfl (H.cellAt (.succ .zero) rfl)) H rfl ?_ | refine WG_take (i := 11) (listed' := [true, true, true, true, true, true, true, true, true, true, true, true, false, false, false, false]) rfl (by kernel_rfl) (fun w H => x_load (v := .int .i32 _) Try.underlying21 rfl rfl (H.cellAt (.succ (.succ .zero)) rfl)) H rfl ?_ | refine WG_take (i := 11) (listed' := [true, true, true, true, true, true, true, true, true, true, true, true, false, false, false, false]) rfl (by kernel_rfl) (fun w H => x_load (v := .int .i32 _) Try.underlying21 rfl rfl (H.cellAt (.succ (.succ (.succ .zero))) rfl)) H rfl ?_ | refine WG_take (i := 11) (listed' := [true, true, true, true, true, true, true, true, true, true, true, true, false, false, false, false]) rfl (by kernel_rfl) (fun w H => x_load (v := .int .i32 _) Try.underlying21 rfl rfl (H.cellAt (.succ (.succ (.succ (.succ .zero)))) rfl)) H rfl ?_ | refine WG_take (i := 11) (listed' := [true, true, true, true, true, true, true, true, true, true, true, true, false, false, false, false]) rfl (by kernel_rfl) (fun w H => x_load Try.underlying21 rfl rfl (H.rnum .zero (by omega) (by omega))) H rfl ?_ | refine WG_take (i := 11) (listed' := [true, true, true, true, true, true, true, true, true, true, true, true, false, false, false, false]) rfl (by kernel_rfl) (fun w H => x_load Try.underlying21 rfl rfl (H.rnum (.succ .zero) (by omega) (by omega))) H rfl ?_ | refine WG_take (i := 11) (listed' := [true, true, true, true, true, true, true, true, true, true, true, true, false, false, false, false]) rfl (by kernel_rfl) (fun w H => x_load Try.underlying21 rfl rfl (H.rnum (.succ (.succ .zero)) (by omega) (by omega))) H rfl ?_ | refine WG_take (i := 11) (listed' := [true, true, true, true, true, true, true, true, true, true, true, true, false, false, false, false]) rfl (by kernel_rfl) (fun w H => x_load Try.underlying21 rfl rfl (H.onum .zero (by omega) (by omega))) H rfl ?_ | refine WG_take (i := 11) (listed' := [true, true, true, true, true, true, true, true, true, true, true, true, false, false, false, false]) rfl (by kernel_rfl) (fun w H => x_load Try.underlying21 rfl rfl (H.onum (.succ .zero) (by omega) (by omega))) H rfl ?_ | refine WG_take (i := 11) (listed' := [true, true, true, true, true, true, true, true, true, true, true, true, false, false, false, false]) rfl (by kernel_rfl) (fun w H => x_load Try.underlying21 rfl rfl (H.onum (.succ (.succ .zero)) (by omega) (by omega))) H rfl ?_
          refine WG_take (i := 12) (listed' := [true, true, true, true, true, true, true, true, true, true, true, true, true, false, false, false]) rfl (by kernel_rfl) (fun w H => x_indexAddr (s := 1) Try.underlying23 (by kernel_rfl) rfl rfl (by omega) (by omega) (by first | rfl | assumption | exact H.rsomen .zero (by omega) | exact H.rsomen (.succ .zero) (by omega) | exact H.rsomen (.succ (.succ .zero)) (by omega) | exact H.osomen .zero (by omega) | exact H.osomen (.succ .zero) (by omega) | exact H.osomen (.succ (.succ .zero)) (by omega)) rfl) H rfl ?_
          refine WG_next (fun w => St W (row A c 21 1 n (nums .i32 d.toList)).fp [row A c 21 1 n (nums .i32 (K.setIfInBounds i K[j]!).toList)] [] w) 15 (listed' := [true, true, true, true, true, true, true, true, true, true, true, true, true, true, false, false]) rfl rfl (by kernel_rfl) rfl ?_
          refine WL_storeR (v := .int .i32 _) (o := i) (n := n) (xs := nums .i32 K.toList) (xs' := nums .i32 (K.setIfInBounds i K[j]!).toList) Try.underlying21 rfl rfl rfl rfl (by kernel_rfl) (by omega) H .zero (by rw [nums_length]; omega) (nums_setA _ _ _ (nth_at (by omega))) ?_
          clear H; intro w H
          refine WL_nil ?_
          refine nx_mk ?_
          refine WG_take (i := 14) (listed' := [true, true, true, true, true, true, true, true, true, true, true, true, true, true, true, false]) rfl (by kernel_rfl) (fun w H => x_indexAddr (s := 1) Try.underlying23 (by kernel_rfl) rfl rfl (by omega) (by omega) (H.osomen .zero (by rw [len_setA]; omega)) rfl) H rfl ?_
          refine WG_fin (listed' := [true, true, true, true, true, true, true, true, true, true, true, true, true, true, true, true]) rfl rfl (by kernel_rfl) rfl (by kernel_rfl) ?_
          refine WL_storeR (v := .int .i32 _) (o := j) (n := n) (xs := nums .i32 (K.setIfInBounds i K[j]!).toList) (xs' := nums .i32 (Go.Sort.swp K i j).toList) Try.underlying21 rfl rfl rfl rfl (by kernel_rfl) (by omega) H .zero (by rw [nums_length, len_setA]; omega) (nums_setA _ _ _ (nth_at (by omega))) ?_
          clear H; intro w H
          have hM2 : (Go.Sort.swp K i j).toList.length = n := by rw [len_swp]; exact hM
          refine WL_nil ?_
          refine fin_mk ?_
          refine thenE_normal ?_
          refine WC_seq ?_
          refine WC_region ?_
          refine WL_x (x_move (v := .int .i64 _) rfl) ?_
          refine WL_x (x_binop rfl rfl (r_add_in (i64_in (by omega) (by omega)))) ?_
          refine WL_x (x_assign (v := .int .i64 _) rfl) ?_
          refine WL_nil ?_
          refine thenE_normal ?_
          refine WC_region ?_
          refine WL_x (x_move (v := .int .i64 _) rfl) ?_
          refine WL_x (x_binop rfl rfl (r_sub_in (i64_in (by omega) (by omega)))) ?_
          refine WL_x (x_assign (v := .int .i64 _) rfl) ?_
          refine WL_nil ?_
          refine inBlockE_normal ?_
          refine thenE_normal ?_
          exact ⟨(i + 1, j - 1, Go.Sort.swp K i j), ⟨by simp only; omega, by simp only; omega, by simp only; omega, by simp only; omega, hM2, by simp only; rw [← hO, partEqLoop_go hi hj (by omega)], (congrArg (Value.int .i64) (by first | omega | rfl | (simp only; omega))), (congrArg (Value.int .i64) (by first | omega | rfl | (simp only; omega))), rfl, rfl, H⟩, by simp only; omega⟩
end Go.Proofs.Ytjagiknmaoilhaa
