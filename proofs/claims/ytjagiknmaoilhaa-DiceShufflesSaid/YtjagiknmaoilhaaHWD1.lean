import Derived.Test.YtjagiknmaoilhaaHWMap
import Derived.Test.YtjagiknmaoilhaaHWDice
import Derived.Test.YtjagiknmaoilhaaHWS5
import Derived.Test.YtjagiknmaoilhaaHWOpen
import Derived.Test.YtjagiknmaoilhaaHWSort2
import Derived.Test.YtjagiknmaoilhaaProg
import Derived.KernelRfl
set_option linter.unusedSimpArgs false
set_option linter.unusedVariables false
set_option linter.unusedSectionVars false
namespace Go.Proofs.Ytjagiknmaoilhaa
open Go Go.HW Go.RowKit
attribute [local irreducible] WL WC WG wpList Code.wp

theorem clone_i32 (W : World) (xs : List Int) (A : Option Addr) (c n : Nat) (hn : xs.length = n) (hx : Cells W A (nums .i32 xs)) (hl : xs.length * 4 ≤ 140737488355328) :
    Calls Try.prog 5 #[.slice A n c] W fun e w' => ∃ A' c', e = .returned (.slice A' n c') ∧ Fr [] W w' ∧ (row A' c' 21 1 n (nums .i32 xs)).ok w' ∧ ∀ b, b ∈ (row A' c' 21 1 n (nums .i32 xs)).fp → W.heap.size ≤ b := by
  subst hn
  have H : St W [] [] [Go.HW.cells A (nums .i32 xs)] W := St.start [] (by simp; exact cells_ok hx)
  cases A with
  | none =>
    obtain rfl : xs = [] := by
      cases xs with
      | nil => rfl
      | cons x xs => have := hx.some_ (by simp [nums]); simp at this
    refine calls_enter (N := 8) Try.func5 rfl Try.ntmps5 rfl ?_
    refine WC_seq ?_
    refine WC_region ?_
    refine WL_x (x_assign (v := (.slice none 0 0)) rfl) ?_
    refine WL_nil ?_
    refine thenE_normal ?_
    refine WC_seq ?_
    refine WC_seq ?_
    refine WC_region ?_
    refine WL_x (x_move (v := .slice _ _ _) rfl) ?_
    refine WL_x (x_slice_eql_nil Try.underlying23 rfl rfl) ?_
    refine WL_nil ?_
    refine thenE_normal ?_
    refine WC_yes rfl ?_
    refine WC_seq ?_
    refine WC_region ?_
    refine WL_x (x_assign (v := (.slice none 0 0)) rfl) ?_
    refine WL_nil ?_
    refine thenE_normal ?_
    refine WC_ret ?_
    refine thenE_ret ?_
    refine ends1 (v := .slice _ _ _) Try.results5 rfl ?_
    exact ⟨none, 0, rfl, H.fr, row_nil _ 21 1, by simp [row]⟩
  | some ad =>
    refine calls_enter (N := 8) Try.func5 rfl Try.ntmps5 rfl ?_
    refine WC_seq ?_
    refine WC_region ?_
    refine WL_x (x_assign (v := (.slice none 0 0)) rfl) ?_
    refine WL_nil ?_
    refine thenE_normal ?_
    refine WC_seq ?_
    refine WC_seq ?_
    refine WC_region ?_
    refine WL_x (x_move (v := .slice _ _ _) rfl) ?_
    refine WL_x (x_slice_eql_nil Try.underlying23 rfl rfl) ?_
    refine WL_nil ?_
    refine thenE_normal ?_
    refine WC_no rfl ?_
    refine WC_skip ?_
    refine thenE_normal ?_
    refine WC_seq ?_
    refine WC_region ?_
    refine WL_buildSliceS (s := 1) (z0 := [.int .i32 0]) (zero := []) (cells := []) (vs := []) Try.underlying23 (by kernel_rfl) (by kernel_rfl) rfl rfl rfl rfl H ?_
    intro b5 w H
    replace H := H.toRow 0 1 .zero rfl (by simp [maxLen])
    refine WL_x (x_move (v := .slice _ _ _) rfl) ?_
    refine WL_append (i := Try.t21) (bytes := 4) (size := 1) Try.underlying23 (by kernel_rfl) rfl rfl rfl (by kernel_rfl) rfl rfl rfl H (fun _ _ => .zero) (by simp [nums]) (H.rcells .zero) (nums_one _ _) (by simp only [maxLen]; omega) (by omega) ?_
    intro A7 c7 w H
    refine WL_x (x_assign (v := .slice _ _ _) rfl) ?_
    refine WL_nil ?_
    refine thenE_normal ?_
    refine WC_ret ?_
    refine ends1 (v := .slice _ _ _) Try.results5 rfl ?_
    simp only [Nat.zero_add] at *
    exact ⟨A7, c7, rfl, H.fr, H.ok _ (by simp), fun b hb => (H.own _ (by simp) b hb).resolve_left (by simp)⟩

theorem equal_i32 (W : World) (xs ys : List Int) (A B : Option Addr) (c d n m : Nat) (hn : xs.length = n) (hm : ys.length = m) (hx : Cells W A (nums .i32 xs)) (hy : Cells W B (nums .i32 ys)) (hl : xs.length ≤ maxLen) :
    Calls Try.prog 8 #[.slice A n c, .slice B m d] W fun e w' => e = .returned (.bool (decide (xs = ys))) ∧ Fr [] W w' := by
  subst hn; subst hm
  unfold maxLen at hl
  have H : St W [] [] [Go.HW.cells A (nums .i32 xs), Go.HW.cells B (nums .i32 ys)] W := St.start [] (by simp; exact ⟨cells_ok hx, cells_ok hy⟩)
  refine calls_enter (N := 26) Try.func8 rfl Try.ntmps8 rfl ?_
  refine WC_seq ?_
  refine WC_region ?_
  refine WL_x (x_assign (v := (.bool false)) rfl) ?_
  refine WL_nil ?_
  refine thenE_normal ?_
  refine WC_seq ?_
  refine WC_seq ?_
  refine WC_region ?_
  refine WL_x (x_move (v := .slice _ _ _) rfl) ?_
  refine WL_x (x_len Try.underlying23 rfl) ?_
  refine WL_x (x_move (v := .slice _ _ _) rfl) ?_
  refine WL_x (x_len Try.underlying23 rfl) ?_
  refine WL_x (x_binop rfl rfl (r_neq _ _ _ _)) ?_
  refine WL_nil ?_
  refine thenE_normal ?_
  refine WC_ifd rfl (fun h10 => ?_) (fun h10 => ?_)
  · refine WC_seq ?_
    refine WC_region ?_
    refine WL_x (x_assign (v := (.bool false)) rfl) ?_
    refine WL_nil ?_
    refine thenE_normal ?_
    refine WC_ret ?_
    refine thenE_ret ?_
    refine ends1 (v := .bool _) Try.results8 rfl ?_
    first
      | exact ⟨by rw [decide_eq_false (by intro e; subst e; exact h10 rfl)], H.fr⟩
      | exact ⟨by rw [decide_eq_false (by intro e; subst e; exact h24 rfl)], H.fr⟩
      | exact ⟨by rw [decide_eq_true (by rw [← List.take_of_length_le (l := xs) (i := k) (by omega), htk, List.take_of_length_le (by omega)])], H.fr⟩
  · have hlen : xs.length = ys.length := by omega
    clear h10
    refine WC_skip ?_
    refine thenE_normal ?_
    refine WC_seq ?_
    refine WC_seq ?_
    refine WC_region ?_
    refine WL_x (x_move (v := .slice _ _ _) rfl) ?_
    refine WL_x (x_len Try.underlying23 rfl) ?_
    refine WL_x (x_move (v := (.int .i64 0)) rfl) ?_
    refine WL_nil ?_
    refine thenE_normal ?_
    refine WC_block ?_
    refine WC_while (fun (k : Nat) f w' => k ≤ xs.length ∧ xs.take k = ys.take k ∧ f 13 = .int .i64 k ∧ f 12 = .int .i64 xs.length ∧ f 0 = .slice A xs.length c ∧ f 1 = .slice B ys.length d ∧ St W [] [] [cells A (nums .i32 xs), cells B (nums .i32 ys)] w') (fun k => xs.length - k) (s0 := 0) ?_ ?_
    · exact ⟨Nat.zero_le _, by simp, rfl, rfl, rfl, rfl, H⟩
    · clear H
      rintro k f w ⟨hk, htk, h13, h12, h0, h1, H⟩
      rw [← upd_self h13, ← upd_self h12, ← upd_self h0, ← upd_self h1]
      refine WC_seq ?_
      refine WC_region ?_
      refine WL_x (x_binop rfl rfl (r_lss _ _ _ _)) ?_
      refine WL_nil ?_
      refine thenE_normal ?_
      refine WC_seq ?_
      refine WC_ifd rfl (fun h14 => ?_) (fun h14 => ?_)
      · refine WC_skip ?_
        refine thenE_normal ?_
        refine WC_seq ?_
        refine WC_block ?_
        refine WC_seq ?_
        refine WC_region ?_
        refine WL_x (x_move (v := .int .i64 _) rfl) ?_
        refine WL_x (x_assign (v := .int .i64 _) rfl) ?_
        refine WL_nil ?_
        refine thenE_normal ?_
        refine WC_seq ?_
        refine WC_drawH (m := 9) (listed := [false, false, false, false, false, false, false, false, false]) 9 (by kernel_rfl) rfl rfl H ?_
        intro w H
        refine WG_take (i := 0) (listed' := [true, false, false, false, false, false, false, false, false]) rfl (by kernel_rfl) (fun w H => x_move (v := .slice _ _ _) rfl) H rfl ?_
        refine WG_take (i := 1) (listed' := [true, true, false, false, false, false, false, false, false]) rfl (by kernel_rfl) (fun w H => x_move (v := .int .i64 _) rfl) H rfl ?_
        refine WG_take (i := 2) (listed' := [true, true, true, false, false, false, false, false, false]) rfl (by kernel_rfl) (fun w H => x_indexAddr (s := 1) Try.underlying23 (by kernel_rfl) rfl rfl (by omega) (by omega) (by first | rfl | assumption | exact H.rsomen .zero (by omega) | exact H.rsomen (.succ .zero) (by omega) | exact H.rsomen (.succ (.succ .zero)) (by omega) | exact H.osomen .zero (by omega) | exact H.osomen (.succ .zero) (by omega) | exact H.osomen (.succ (.succ .zero)) (by omega)) rfl) H rfl ?_
        first | refine WG_take (i := 3) (listed' := [true, true, true, true, false, false, false, false, false]) rfl (by kernel_rfl) (fun w H => x_load (v := .int .i32 _) Try.underlying21 rfl rfl (H.cellAt .zero rfl)) H rfl ?_ | refine WG_take (i := 3) (listed' := [true, true, true, true, false, false, false, false, false]) rfl (by kernel_rfl) (fun w H => x_load (v := .int .i32 _) Try.underlying21 rfl rfl (H.cellAt (.succ .zero) rfl)) H rfl ?_ | refine WG_take (i := 3) (listed' := [true, true, true, true, false, false, false, false, false]) rfl (by kernel_rfl) (fun w H => x_load (v := .int .i32 _) Try.underlying21 rfl rfl (H.cellAt (.succ (.succ .zero)) rfl)) H rfl ?_ | refine WG_take (i := 3) (listed' := [true, true, true, true, false, false, false, false, false]) rfl (by kernel_rfl) (fun w H => x_load (v := .int .i32 _) Try.underlying21 rfl rfl (H.cellAt (.succ (.succ (.succ .zero))) rfl)) H rfl ?_ | refine WG_take (i := 3) (listed' := [true, true, true, true, false, false, false, false, false]) rfl (by kernel_rfl) (fun w H => x_load (v := .int .i32 _) Try.underlying21 rfl rfl (H.cellAt (.succ (.succ (.succ (.succ .zero)))) rfl)) H rfl ?_ | refine WG_take (i := 3) (listed' := [true, true, true, true, false, false, false, false, false]) rfl (by kernel_rfl) (fun w H => x_load Try.underlying21 rfl rfl (H.rnum .zero (by omega) (by omega))) H rfl ?_ | refine WG_take (i := 3) (listed' := [true, true, true, true, false, false, false, false, false]) rfl (by kernel_rfl) (fun w H => x_load Try.underlying21 rfl rfl (H.rnum (.succ .zero) (by omega) (by omega))) H rfl ?_ | refine WG_take (i := 3) (listed' := [true, true, true, true, false, false, false, false, false]) rfl (by kernel_rfl) (fun w H => x_load Try.underlying21 rfl rfl (H.rnum (.succ (.succ .zero)) (by omega) (by omega))) H rfl ?_ | refine WG_take (i := 3) (listed' := [true, true, true, true, false, false, false, false, false]) rfl (by kernel_rfl) (fun w H => x_load Try.underlying21 rfl rfl (H.onum .zero (by omega) (by omega))) H rfl ?_ | refine WG_take (i := 3) (listed' := [true, true, true, true, false, false, false, false, false]) rfl (by kernel_rfl) (fun w H => x_load Try.underlying21 rfl rfl (H.onum (.succ .zero) (by omega) (by omega))) H rfl ?_ | refine WG_take (i := 3) (listed' := [true, true, true, true, false, false, false, false, false]) rfl (by kernel_rfl) (fun w H => x_load Try.underlying21 rfl rfl (H.onum (.succ (.succ .zero)) (by omega) (by omega))) H rfl ?_
        refine WG_take (i := 4) (listed' := [true, true, true, true, true, false, false, false, false]) rfl (by kernel_rfl) (fun w H => x_move (v := .slice _ _ _) rfl) H rfl ?_
        refine WG_take (i := 5) (listed' := [true, true, true, true, true, true, false, false, false]) rfl (by kernel_rfl) (fun w H => x_move (v := .int .i64 _) rfl) H rfl ?_
        refine WG_take (i := 6) (listed' := [true, true, true, true, true, true, true, false, false]) rfl (by kernel_rfl) (fun w H => x_indexAddr (s := 1) Try.underlying23 (by kernel_rfl) rfl rfl (by omega) (by omega) (by first | rfl | assumption | exact H.rsomen .zero (by omega) | exact H.rsomen (.succ .zero) (by omega) | exact H.rsomen (.succ (.succ .zero)) (by omega) | exact H.osomen .zero (by omega) | exact H.osomen (.succ .zero) (by omega) | exact H.osomen (.succ (.succ .zero)) (by omega)) rfl) H rfl ?_
        first | refine WG_take (i := 7) (listed' := [true, true, true, true, true, true, true, true, false]) rfl (by kernel_rfl) (fun w H => x_load (v := .int .i32 _) Try.underlying21 rfl rfl (H.cellAt .zero rfl)) H rfl ?_ | refine WG_take (i := 7) (listed' := [true, true, true, true, true, true, true, true, false]) rfl (by kernel_rfl) (fun w H => x_load (v := .int .i32 _) Try.underlying21 rfl rfl (H.cellAt (.succ .zero) rfl)) H rfl ?_ | refine WG_take (i := 7) (listed' := [true, true, true, true, true, true, true, true, false]) rfl (by kernel_rfl) (fun w H => x_load (v := .int .i32 _) Try.underlying21 rfl rfl (H.cellAt (.succ (.succ .zero)) rfl)) H rfl ?_ | refine WG_take (i := 7) (listed' := [true, true, true, true, true, true, true, true, false]) rfl (by kernel_rfl) (fun w H => x_load (v := .int .i32 _) Try.underlying21 rfl rfl (H.cellAt (.succ (.succ (.succ .zero))) rfl)) H rfl ?_ | refine WG_take (i := 7) (listed' := [true, true, true, true, true, true, true, true, false]) rfl (by kernel_rfl) (fun w H => x_load (v := .int .i32 _) Try.underlying21 rfl rfl (H.cellAt (.succ (.succ (.succ (.succ .zero)))) rfl)) H rfl ?_ | refine WG_take (i := 7) (listed' := [true, true, true, true, true, true, true, true, false]) rfl (by kernel_rfl) (fun w H => x_load Try.underlying21 rfl rfl (H.rnum .zero (by omega) (by omega))) H rfl ?_ | refine WG_take (i := 7) (listed' := [true, true, true, true, true, true, true, true, false]) rfl (by kernel_rfl) (fun w H => x_load Try.underlying21 rfl rfl (H.rnum (.succ .zero) (by omega) (by omega))) H rfl ?_ | refine WG_take (i := 7) (listed' := [true, true, true, true, true, true, true, true, false]) rfl (by kernel_rfl) (fun w H => x_load Try.underlying21 rfl rfl (H.rnum (.succ (.succ .zero)) (by omega) (by omega))) H rfl ?_ | refine WG_take (i := 7) (listed' := [true, true, true, true, true, true, true, true, false]) rfl (by kernel_rfl) (fun w H => x_load Try.underlying21 rfl rfl (H.onum .zero (by omega) (by omega))) H rfl ?_ | refine WG_take (i := 7) (listed' := [true, true, true, true, true, true, true, true, false]) rfl (by kernel_rfl) (fun w H => x_load Try.underlying21 rfl rfl (H.onum (.succ .zero) (by omega) (by omega))) H rfl ?_ | refine WG_take (i := 7) (listed' := [true, true, true, true, true, true, true, true, false]) rfl (by kernel_rfl) (fun w H => x_load Try.underlying21 rfl rfl (H.onum (.succ (.succ .zero)) (by omega) (by omega))) H rfl ?_
        refine WG_take (i := 8) (listed' := [true, true, true, true, true, true, true, true, true]) rfl (by kernel_rfl) (fun w H => x_binop rfl rfl (r_neq _ _ _ _)) H rfl ?_
        refine WG_done (by kernel_rfl) ?_
        refine thenE_normal ?_
        refine WC_ifd rfl (fun h24 => ?_) (fun h24 => ?_)
        · refine WC_seq ?_
          refine WC_region ?_
          refine WL_x (x_assign (v := (.bool false)) rfl) ?_
          refine WL_nil ?_
          refine thenE_normal ?_
          refine WC_ret ?_
          refine inBlockE_ret ?_
          refine thenE_ret ?_
          refine thenE_ret ?_
          refine inBlockE_ret ?_
          refine thenE_ret ?_
          refine ends1 (v := .bool _) Try.results8 rfl ?_
          first
            | exact ⟨by rw [decide_eq_false (by intro e; subst e; exact h10 rfl)], H.fr⟩
            | exact ⟨by rw [decide_eq_false (by intro e; subst e; exact h24 rfl)], H.fr⟩
            | exact ⟨by rw [decide_eq_true (by rw [← List.take_of_length_le (l := xs) (i := k) (by omega), htk, List.take_of_length_le (by omega)])], H.fr⟩
        · refine WC_skip ?_
          refine inBlockE_normal ?_
          refine thenE_normal ?_
          refine WC_region ?_
          refine WL_x (x_binop rfl rfl (r_add_in (i64_in (by omega) (by omega)))) ?_
          refine WL_x (x_move (v := .int .i64 _) rfl) ?_
          refine WL_nil ?_
          refine thenE_normal ?_
          refine ⟨k + 1, ⟨by omega, ?_, rfl, rfl, rfl, rfl, H⟩, by omega⟩
          rw [take_succ_nth xs k (by omega), take_succ_nth ys k (by omega), htk, Classical.not_not.1 h24]
      · refine WC_exit ?_
        refine thenE_exit ?_
        refine thenE_exit ?_
        refine inBlockE_exit ?_
        refine thenE_normal ?_
        refine WC_seq ?_
        refine WC_region ?_
        refine WL_x (x_assign (v := (.bool true)) rfl) ?_
        refine WL_nil ?_
        refine thenE_normal ?_
        refine WC_ret ?_
        refine ends1 (v := .bool _) Try.results8 rfl ?_
        first
          | exact ⟨by rw [decide_eq_false (by intro e; subst e; exact h10 rfl)], H.fr⟩
          | exact ⟨by rw [decide_eq_false (by intro e; subst e; exact h24 rfl)], H.fr⟩
          | exact ⟨by rw [decide_eq_true (by rw [← List.take_of_length_le (l := xs) (i := k) (by omega), htk, List.take_of_length_le (by omega)])], H.fr⟩

theorem mixed_ok (W : World) (z : Int) : Calls Try.prog 15 #[.int .u64 z] W fun e w' => e = .returned (.int .u64 (mixZ z)) ∧ Fr [] W w' := by
  have H : St W [] [] [] W := St.start [] (by simp)
  refine calls_enter (N := 17) Try.func15 rfl Try.ntmps15 rfl ?_
  refine WC_seq ?_
  refine WC_region ?_
  refine WL_x (x_assign (v := (.int .u64 0)) rfl) ?_
  refine WL_nil ?_
  refine thenE_normal ?_
  refine WC_seq ?_
  refine WC_region ?_
  refine WL_x (x_move (v := .int .u64 _) rfl) ?_
  refine WL_x (x_move (v := .int .u64 _) rfl) ?_
  refine WL_x (x_binop rfl rfl (r_shr (by omega))) ?_
  refine WL_x (x_binop rfl rfl (r_xor _ _ _ _)) ?_
  refine WL_x (x_binop rfl rfl (r_mul _ _ _ _)) ?_
  refine WL_x (x_assign (v := .int .u64 _) rfl) ?_
  refine WL_nil ?_
  refine thenE_normal ?_
  refine WC_seq ?_
  refine WC_region ?_
  refine WL_x (x_move (v := .int .u64 _) rfl) ?_
  refine WL_x (x_move (v := .int .u64 _) rfl) ?_
  refine WL_x (x_binop rfl rfl (r_shr (by omega))) ?_
  refine WL_x (x_binop rfl rfl (r_xor _ _ _ _)) ?_
  refine WL_x (x_binop rfl rfl (r_mul _ _ _ _)) ?_
  refine WL_x (x_assign (v := .int .u64 _) rfl) ?_
  refine WL_nil ?_
  refine thenE_normal ?_
  refine WC_seq ?_
  refine WC_region ?_
  refine WL_x (x_move (v := .int .u64 _) rfl) ?_
  refine WL_x (x_move (v := .int .u64 _) rfl) ?_
  refine WL_x (x_binop rfl rfl (r_shr (by omega))) ?_
  refine WL_x (x_binop rfl rfl (r_xor _ _ _ _)) ?_
  refine WL_x (x_assign (v := .int .u64 _) rfl) ?_
  refine WL_nil ?_
  refine thenE_normal ?_
  refine WC_ret ?_
  refine ends1 (v := .int .u64 _) Try.results15 rfl ?_
  exact ⟨by rw [sh30, sh27, sh31]; rfl, H.fr⟩

theorem next_ok (W : World) (s : Int) : Calls Try.prog 10 #[.agg #[.int .u64 s]] W fun e w' => e = .returned (.tuple #[.int .u32 (rollX s), .agg #[.int .u64 (stepS s)]]) ∧ Fr [] W w' := by
  have H : St W [] [] [] W := St.start [] (by simp)
  refine calls_enter (N := 14) Try.func10 rfl Try.ntmps10 rfl ?_
  refine WC_seq ?_
  refine WC_region ?_
  refine WL_box (v := .agg (List.toArray _)) rfl rfl H ?_
  clear H; intro b1 w H
  refine WL_x (x_assign (v := (.int .u32 0)) rfl) ?_
  refine WL_alloc (l := [(.int .u64 0)]) (by kernel_rfl) H ?_
  clear H; intro b3 w H
  refine WL_nil ?_
  refine thenE_normal ?_
  refine WC_seq ?_
  refine WC_region ?_
  refine WL_x (x_fieldAddr (n := 0) (o' := 0) Try.underlying27 rfl (by kernel_rfl) rfl rfl) ?_
  first | refine WL_x (x_load (v := .int .u64 _) Try.underlying22 rfl rfl (H.cellAt .zero rfl)) ?_ | refine WL_x (x_load (v := .int .u64 _) Try.underlying22 rfl rfl (H.cellAt (.succ .zero) rfl)) ?_ | refine WL_x (x_load (v := .int .u64 _) Try.underlying22 rfl rfl (H.cellAt (.succ (.succ .zero)) rfl)) ?_ | refine WL_x (x_load (v := .int .u64 _) Try.underlying22 rfl rfl (H.cellAt (.succ (.succ (.succ .zero))) rfl)) ?_ | refine WL_x (x_load (v := .int .u64 _) Try.underlying22 rfl rfl (H.cellAt (.succ (.succ (.succ (.succ .zero)))) rfl)) ?_ | refine WL_x (x_load Try.underlying22 rfl rfl (H.rnum .zero (by omega) (by omega))) ?_ | refine WL_x (x_load Try.underlying22 rfl rfl (H.rnum (.succ .zero) (by omega) (by omega))) ?_ | refine WL_x (x_load Try.underlying22 rfl rfl (H.rnum (.succ (.succ .zero)) (by omega) (by omega))) ?_ | refine WL_x (x_load Try.underlying22 rfl rfl (H.onum .zero (by omega) (by omega))) ?_ | refine WL_x (x_load Try.underlying22 rfl rfl (H.onum (.succ .zero) (by omega) (by omega))) ?_ | refine WL_x (x_load Try.underlying22 rfl rfl (H.onum (.succ (.succ .zero)) (by omega) (by omega))) ?_
  refine WL_x (x_binop rfl rfl (r_add _ _ _ _)) ?_
  refine WL_x (x_fieldAddr (n := 0) (o' := 0) Try.underlying27 rfl (by kernel_rfl) rfl rfl) ?_
  first | refine WL_store (v := .int .u64 _) Try.underlying22 rfl rfl rfl rfl (by kernel_rfl) H .zero (Nat.le_of_ble_eq_true rfl) rfl ?_ | refine WL_store (v := .int .u64 _) Try.underlying22 rfl rfl rfl rfl (by kernel_rfl) H (.succ .zero) (Nat.le_of_ble_eq_true rfl) rfl ?_ | refine WL_store (v := .int .u64 _) Try.underlying22 rfl rfl rfl rfl (by kernel_rfl) H (.succ (.succ .zero)) (Nat.le_of_ble_eq_true rfl) rfl ?_ | refine WL_store (v := .int .u64 _) Try.underlying22 rfl rfl rfl rfl (by kernel_rfl) H (.succ (.succ (.succ .zero))) (Nat.le_of_ble_eq_true rfl) rfl ?_ | refine WL_store (v := .int .u64 _) Try.underlying22 rfl rfl rfl rfl (by kernel_rfl) H (.succ (.succ (.succ (.succ .zero)))) (Nat.le_of_ble_eq_true rfl) rfl ?_
  clear H; intro w H
  try simp only [List.set_cons_succ, List.set_cons_zero] at H
  refine WL_nil ?_
  refine thenE_normal ?_
  refine WC_seq ?_
  refine WC_drawH (m := 8) (listed := [false, false, false, false, false, false, false, false]) 7 (by kernel_rfl) rfl rfl H ?_
  intro w H
  refine WG_take (i := 0) (listed' := [true, false, false, false, false, false, false, false]) rfl (by kernel_rfl) (fun w H => x_fieldAddr (n := 0) (o' := 0) Try.underlying27 rfl (by kernel_rfl) rfl rfl) H rfl ?_
  first | refine WG_take (i := 1) (listed' := [true, true, false, false, false, false, false, false]) rfl (by kernel_rfl) (fun w H => x_load (v := .int .u64 _) Try.underlying22 rfl rfl (H.cellAt .zero rfl)) H rfl ?_ | refine WG_take (i := 1) (listed' := [true, true, false, false, false, false, false, false]) rfl (by kernel_rfl) (fun w H => x_load (v := .int .u64 _) Try.underlying22 rfl rfl (H.cellAt (.succ .zero) rfl)) H rfl ?_ | refine WG_take (i := 1) (listed' := [true, true, false, false, false, false, false, false]) rfl (by kernel_rfl) (fun w H => x_load (v := .int .u64 _) Try.underlying22 rfl rfl (H.cellAt (.succ (.succ .zero)) rfl)) H rfl ?_ | refine WG_take (i := 1) (listed' := [true, true, false, false, false, false, false, false]) rfl (by kernel_rfl) (fun w H => x_load (v := .int .u64 _) Try.underlying22 rfl rfl (H.cellAt (.succ (.succ (.succ .zero))) rfl)) H rfl ?_ | refine WG_take (i := 1) (listed' := [true, true, false, false, false, false, false, false]) rfl (by kernel_rfl) (fun w H => x_load (v := .int .u64 _) Try.underlying22 rfl rfl (H.cellAt (.succ (.succ (.succ (.succ .zero)))) rfl)) H rfl ?_ | refine WG_take (i := 1) (listed' := [true, true, false, false, false, false, false, false]) rfl (by kernel_rfl) (fun w H => x_load Try.underlying22 rfl rfl (H.rnum .zero (by omega) (by omega))) H rfl ?_ | refine WG_take (i := 1) (listed' := [true, true, false, false, false, false, false, false]) rfl (by kernel_rfl) (fun w H => x_load Try.underlying22 rfl rfl (H.rnum (.succ .zero) (by omega) (by omega))) H rfl ?_ | refine WG_take (i := 1) (listed' := [true, true, false, false, false, false, false, false]) rfl (by kernel_rfl) (fun w H => x_load Try.underlying22 rfl rfl (H.rnum (.succ (.succ .zero)) (by omega) (by omega))) H rfl ?_ | refine WG_take (i := 1) (listed' := [true, true, false, false, false, false, false, false]) rfl (by kernel_rfl) (fun w H => x_load Try.underlying22 rfl rfl (H.onum .zero (by omega) (by omega))) H rfl ?_ | refine WG_take (i := 1) (listed' := [true, true, false, false, false, false, false, false]) rfl (by kernel_rfl) (fun w H => x_load Try.underlying22 rfl rfl (H.onum (.succ .zero) (by omega) (by omega))) H rfl ?_ | refine WG_take (i := 1) (listed' := [true, true, false, false, false, false, false, false]) rfl (by kernel_rfl) (fun w H => x_load Try.underlying22 rfl rfl (H.onum (.succ (.succ .zero)) (by omega) (by omega))) H rfl ?_
  first | refine WG_take (i := 5) (listed' := [true, true, false, false, false, true, false, false]) rfl (by kernel_rfl) (fun w H => x_loadA (n := 1) Try.underlying27 rfl (by kernel_rfl) rfl rfl (H.rangeAll .zero rfl rfl)) H rfl ?_ | refine WG_take (i := 5) (listed' := [true, true, false, false, false, true, false, false]) rfl (by kernel_rfl) (fun w H => x_loadA (n := 1) Try.underlying27 rfl (by kernel_rfl) rfl rfl (H.rangeAll (.succ .zero) rfl rfl)) H rfl ?_ | refine WG_take (i := 5) (listed' := [true, true, false, false, false, true, false, false]) rfl (by kernel_rfl) (fun w H => x_loadA (n := 1) Try.underlying27 rfl (by kernel_rfl) rfl rfl (H.rangeAll (.succ (.succ .zero)) rfl rfl)) H rfl ?_ | refine WG_take (i := 5) (listed' := [true, true, false, false, false, true, false, false]) rfl (by kernel_rfl) (fun w H => x_loadA (n := 1) Try.underlying27 rfl (by kernel_rfl) rfl rfl (H.rangeAll (.succ (.succ (.succ .zero))) rfl rfl)) H rfl ?_ | refine WG_take (i := 5) (listed' := [true, true, false, false, false, true, false, false]) rfl (by kernel_rfl) (fun w H => x_loadA (n := 1) Try.underlying27 rfl (by kernel_rfl) rfl rfl (H.rangeAll (.succ (.succ (.succ (.succ .zero)))) rfl rfl)) H rfl ?_
  refine WG_mid (i := 2) (listed' := [true, true, true, false, false, true, false, false]) rfl rfl (by kernel_rfl) rfl rfl ?_
  refine WL_call (vs := [.int .u64 _]) Try.func15 rfl rfl rfl (mixed_ok _ _) ?_
  rintro _ w ⟨rfl, hf⟩
  refine ⟨_, rfl, ?_⟩
  replace H := H.quiet hf
  refine WL_nil ?_
  refine mid_mk H ?_
  refine WG_take (i := 3) (listed' := [true, true, true, true, false, true, false, false]) rfl (by kernel_rfl) (fun w H => x_binop rfl rfl (r_shr (by omega))) H rfl ?_
  refine WG_take (i := 4) (listed' := [true, true, true, true, true, true, false, false]) rfl (by kernel_rfl) (fun w H => x_convert Try.underlying22 Try.underlying35 rfl rfl) H rfl ?_
  refine WG_take (i := 6) (listed' := [true, true, true, true, true, true, true, false]) rfl (by kernel_rfl) (fun w H => x_assign (v := .int .u32 _) rfl) H rfl ?_
  refine WG_fin (listed' := [true, true, true, true, true, true, true, true]) rfl rfl (by kernel_rfl) rfl (by kernel_rfl) ?_
  first | refine WL_storeA rfl rfl rfl (by kernel_rfl) H .zero (Nat.le_of_ble_eq_true rfl) (splice_all _ _ rfl) ?_ | refine WL_storeA rfl rfl rfl (by kernel_rfl) H (.succ .zero) (Nat.le_of_ble_eq_true rfl) (splice_all _ _ rfl) ?_ | refine WL_storeA rfl rfl rfl (by kernel_rfl) H (.succ (.succ .zero)) (Nat.le_of_ble_eq_true rfl) (splice_all _ _ rfl) ?_ | refine WL_storeA rfl rfl rfl (by kernel_rfl) H (.succ (.succ (.succ .zero))) (Nat.le_of_ble_eq_true rfl) (splice_all _ _ rfl) ?_ | refine WL_storeA rfl rfl rfl (by kernel_rfl) H (.succ (.succ (.succ (.succ .zero)))) (Nat.le_of_ble_eq_true rfl) (splice_all _ _ rfl) ?_
  clear H; intro w H
  refine WL_nil ?_
  refine fin_mk ?_
  refine thenE_normal ?_
  refine WC_ret ?_
  refine endsR (rs := [.tmp 2, .cell 3 27]) (vs := [.int .u32 (rollX s), .agg [.int .u64 (stepS s)].toArray]) Try.results10 ?_ ?_
  · exact .cons (.tmp (congrArg (fun z => Value.int .u32 (IntKind.u32.wrap z)) (sh32 _))) (.cons (.agg (n := 1) (vs := [.int .u64 (stepS s)]) rfl Try.underlying27 rfl (by kernel_rfl) rfl (H.rangeAll .zero rfl rfl)) .nil)
  exact ⟨rfl, H.fr⟩

theorem below_ok (W : World) (s m : Int) (hm : 0 ≤ m ∧ m < 4294967296) : Calls Try.prog 11 #[.agg #[.int .u64 s], .int .u32 m] W fun e w' => e = .returned (.tuple #[.int .u32 (belowX s m), .agg #[.int .u64 (stepS s)]]) ∧ Fr [] W w' := by
  have H : St W [] [] [] W := St.start [] (by simp)
  refine calls_enter (N := 20) Try.func11 rfl Try.ntmps11 rfl ?_
  refine WC_seq ?_
  refine WC_region ?_
  refine WL_box (v := .agg (List.toArray _)) rfl rfl H ?_
  clear H; intro b2 w H
  refine WL_x (x_assign (v := (.int .u32 0)) rfl) ?_
  refine WL_alloc (l := [(.int .u64 0)]) (by kernel_rfl) H ?_
  clear H; intro b5 w H
  refine WL_nil ?_
  refine thenE_normal ?_
  refine WC_seq ?_
  refine WC_region ?_
  first | refine WL_x (x_loadA (n := 1) Try.underlying27 rfl (by kernel_rfl) rfl rfl (H.rangeAll .zero rfl rfl)) ?_ | refine WL_x (x_loadA (n := 1) Try.underlying27 rfl (by kernel_rfl) rfl rfl (H.rangeAll (.succ .zero) rfl rfl)) ?_ | refine WL_x (x_loadA (n := 1) Try.underlying27 rfl (by kernel_rfl) rfl rfl (H.rangeAll (.succ (.succ .zero)) rfl rfl)) ?_ | refine WL_x (x_loadA (n := 1) Try.underlying27 rfl (by kernel_rfl) rfl rfl (H.rangeAll (.succ (.succ (.succ .zero))) rfl rfl)) ?_ | refine WL_x (x_loadA (n := 1) Try.underlying27 rfl (by kernel_rfl) rfl rfl (H.rangeAll (.succ (.succ (.succ (.succ .zero)))) rfl rfl)) ?_
  refine WL_call (vs := [.agg (List.toArray _)]) Try.func10 rfl rfl rfl (next_ok _ _) ?_
  rintro _ w ⟨rfl, hf⟩
  refine ⟨_, rfl, ?_⟩
  replace H := H.quiet hf
  have hr := rollX_range s
  refine WL_x (x_move (v := .tuple _) rfl) ?_
  refine WL_x (x_extract (v := .int .u32 _) rfl rfl) ?_
  refine WL_x (x_extract (v := .agg (List.toArray _)) rfl rfl) ?_
  refine WL_x (x_assign (v := .int .u32 _) rfl) ?_
  first | refine WL_storeA rfl rfl rfl (by kernel_rfl) H .zero (Nat.le_of_ble_eq_true rfl) (splice_all _ _ rfl) ?_ | refine WL_storeA rfl rfl rfl (by kernel_rfl) H (.succ .zero) (Nat.le_of_ble_eq_true rfl) (splice_all _ _ rfl) ?_ | refine WL_storeA rfl rfl rfl (by kernel_rfl) H (.succ (.succ .zero)) (Nat.le_of_ble_eq_true rfl) (splice_all _ _ rfl) ?_ | refine WL_storeA rfl rfl rfl (by kernel_rfl) H (.succ (.succ (.succ .zero))) (Nat.le_of_ble_eq_true rfl) (splice_all _ _ rfl) ?_ | refine WL_storeA rfl rfl rfl (by kernel_rfl) H (.succ (.succ (.succ (.succ .zero)))) (Nat.le_of_ble_eq_true rfl) (splice_all _ _ rfl) ?_
  clear H; intro w H
  refine WL_nil ?_
  refine thenE_normal ?_
  refine WC_seq ?_
  refine WC_drawH (m := 10) (listed := [false, false, false, false, false, false, false, false, false, false]) 9 (by kernel_rfl) rfl rfl H ?_
  intro w H
  refine WG_take (i := 0) (listed' := [true, false, false, false, false, false, false, false, false, false]) rfl (by kernel_rfl) (fun w H => x_move (v := .int .u32 _) rfl) H rfl ?_
  refine WG_take (i := 1) (listed' := [true, true, false, false, false, false, false, false, false, false]) rfl (by kernel_rfl) (fun w H => x_convert Try.underlying35 Try.underlying22 rfl (u64_in (by omega) (by omega))) H rfl ?_
  refine WG_take (i := 2) (listed' := [true, true, true, false, false, false, false, false, false, false]) rfl (by kernel_rfl) (fun w H => x_move (v := .int .u32 _) rfl) H rfl ?_
  refine WG_take (i := 3) (listed' := [true, true, true, true, false, false, false, false, false, false]) rfl (by kernel_rfl) (fun w H => x_convert Try.underlying35 Try.underlying22 rfl (u64_in (by omega) (by omega))) H rfl ?_
  refine WG_take (i := 4) (listed' := [true, true, true, true, true, false, false, false, false, false]) rfl (by kernel_rfl) (fun w H => x_binop rfl rfl (r_mul _ _ _ _)) H rfl ?_
  refine WG_take (i := 5) (listed' := [true, true, true, true, true, true, false, false, false, false]) rfl (by kernel_rfl) (fun w H => x_binop rfl rfl (r_shr (by omega))) H rfl ?_
  refine WG_take (i := 6) (listed' := [true, true, true, true, true, true, true, false, false, false]) rfl (by kernel_rfl) (fun w H => x_convert Try.underlying22 Try.underlying35 rfl rfl) H rfl ?_
  first | refine WG_take (i := 7) (listed' := [true, true, true, true, true, true, true, true, false, false]) rfl (by kernel_rfl) (fun w H => x_loadA (n := 1) Try.underlying27 rfl (by kernel_rfl) rfl rfl (H.rangeAll .zero rfl rfl)) H rfl ?_ | refine WG_take (i := 7) (listed' := [true, true, true, true, true, true, true, true, false, false]) rfl (by kernel_rfl) (fun w H => x_loadA (n := 1) Try.underlying27 rfl (by kernel_rfl) rfl rfl (H.rangeAll (.succ .zero) rfl rfl)) H rfl ?_ | refine WG_take (i := 7) (listed' := [true, true, true, true, true, true, true, true, false, false]) rfl (by kernel_rfl) (fun w H => x_loadA (n := 1) Try.underlying27 rfl (by kernel_rfl) rfl rfl (H.rangeAll (.succ (.succ .zero)) rfl rfl)) H rfl ?_ | refine WG_take (i := 7) (listed' := [true, true, true, true, true, true, true, true, false, false]) rfl (by kernel_rfl) (fun w H => x_loadA (n := 1) Try.underlying27 rfl (by kernel_rfl) rfl rfl (H.rangeAll (.succ (.succ (.succ .zero))) rfl rfl)) H rfl ?_ | refine WG_take (i := 7) (listed' := [true, true, true, true, true, true, true, true, false, false]) rfl (by kernel_rfl) (fun w H => x_loadA (n := 1) Try.underlying27 rfl (by kernel_rfl) rfl rfl (H.rangeAll (.succ (.succ (.succ (.succ .zero)))) rfl rfl)) H rfl ?_
  refine WG_take (i := 8) (listed' := [true, true, true, true, true, true, true, true, true, false]) rfl (by kernel_rfl) (fun w H => x_assign (v := .int .u32 _) rfl) H rfl ?_
  refine WG_fin (listed' := [true, true, true, true, true, true, true, true, true, true]) rfl rfl (by kernel_rfl) rfl (by kernel_rfl) ?_
  first | refine WL_storeA rfl rfl rfl (by kernel_rfl) H .zero (Nat.le_of_ble_eq_true rfl) (splice_all _ _ rfl) ?_ | refine WL_storeA rfl rfl rfl (by kernel_rfl) H (.succ .zero) (Nat.le_of_ble_eq_true rfl) (splice_all _ _ rfl) ?_ | refine WL_storeA rfl rfl rfl (by kernel_rfl) H (.succ (.succ .zero)) (Nat.le_of_ble_eq_true rfl) (splice_all _ _ rfl) ?_ | refine WL_storeA rfl rfl rfl (by kernel_rfl) H (.succ (.succ (.succ .zero))) (Nat.le_of_ble_eq_true rfl) (splice_all _ _ rfl) ?_ | refine WL_storeA rfl rfl rfl (by kernel_rfl) H (.succ (.succ (.succ (.succ .zero)))) (Nat.le_of_ble_eq_true rfl) (splice_all _ _ rfl) ?_
  clear H; intro w H
  refine WL_nil ?_
  refine fin_mk ?_
  refine thenE_normal ?_
  refine WC_ret ?_
  refine endsR (rs := [.tmp 4, .cell 5 27]) (vs := [.int .u32 (belowX s m), .agg [.int .u64 (stepS s)].toArray]) Try.results11 ?_ ?_
  · exact .cons (.tmp (congrArg (fun z => Value.int .u32 (IntKind.u32.wrap z)) (sh32 _))) (.cons (.agg (n := 1) (vs := [.int .u64 (stepS s)]) rfl Try.underlying27 rfl (by kernel_rfl) rfl (H.rangeAll .zero rfl rfl)) .nil)
  exact ⟨rfl, H.fr⟩

set_option maxHeartbeats 1000000 in
theorem shuffle_i32 (W : World) (s0 : Int) (d : Array Int) (A0 : Option Addr) (c0 n : Nat) (hx : Cells W A0 (nums .i32 d.toList)) (hM : d.toList.length = n) (hn : n ≤ 1000000) :
    Calls Try.prog 6 #[.agg #[.int .u64 s0], .slice A0 n c0] W fun e w' => ∃ A c, e = .returned (.tuple #[.slice A n c, .agg #[.int .u64 (shufM n s0 d).2]]) ∧ Fr [] W w' ∧ (row A c 21 1 n (nums .i32 (shufM n s0 d).1.toList)).ok w' ∧ ∀ b, b ∈ (row A c 21 1 n (nums .i32 (shufM n s0 d).1.toList)).fp → W.heap.size ≤ b := by
  have H : St W [] [] [Go.HW.cells A0 (nums .i32 d.toList)] W := St.start [] (by simp; exact cells_ok hx)
  refine calls_enter (N := 42) Try.func6 rfl Try.ntmps6 rfl ?_
  refine WC_seq ?_
  refine WC_region ?_
  refine WL_box (v := .agg (List.toArray _)) rfl rfl H ?_
  clear H; intro b2 w H
  refine WL_x (x_assign (v := (.slice none 0 0)) rfl) ?_
  refine WL_alloc (l := [(.int .u64 0)]) (by kernel_rfl) H ?_
  clear H; intro b5 w H
  refine WL_nil ?_
  refine thenE_normal ?_
  refine WC_seq ?_
  refine WC_region ?_
  refine WL_x (x_move (v := .slice _ _ _) rfl) ?_
  refine WL_call (vs := [.slice _ _ _]) Try.func5 rfl rfl rfl (clone_i32 _ d.toList A0 c0 n hM (H.rcells .zero) (by omega)) ?_
  rintro _ w ⟨A, c, rfl, hf, hok, hfr⟩
  refine ⟨_, rfl, ?_⟩
  replace H := H.new hf hok hfr
  have hlc := owns_len hok.r
  unfold maxLen at hlc
  refine WL_x (x_assign (v := .slice _ _ _) rfl) ?_
  refine WL_nil ?_
  refine thenE_normal ?_
  refine WC_seq ?_
  refine WC_seq ?_
  refine WC_region ?_
  refine WL_x (x_move (v := .slice _ _ _) rfl) ?_
  refine WL_x (x_len Try.underlying23 rfl) ?_
  refine WL_x (x_binop rfl rfl (r_sub_in (i64_in (by omega) (by omega)))) ?_
  refine WL_x (x_assign (v := .int .i64 _) rfl) ?_
  refine WL_nil ?_
  refine thenE_normal ?_
  refine WC_block ?_
  refine WC_while (fun (s : Nat × Int × Array Int) f w' => s.1 ≤ n ∧ s.2.2.toList.length = n ∧ shufM s.1 s.2.1 s.2.2 = shufM n s0 d ∧ f 7 = .int .i64 ((s.1 : Int) - 1) ∧ f 6 = .slice A n c ∧ f 2 = .pointer (some ⟨b2, 0, none⟩) ∧ f 5 = .pointer (some ⟨b5, 0, none⟩) ∧ St W [] [row A c 21 1 n (nums .i32 s.2.2.toList), blk b5 [.int .u64 0] 27, blk b2 [.int .u64 s.2.1] 27] [Go.HW.cells A0 (nums .i32 d.toList)] w') (fun s => s.1) (s0 := (n, s0, d)) ?_ ?_
  · exact ⟨Nat.le_refl _, hM, rfl, rfl, rfl, rfl, rfl, H⟩
  · clear H hM
    rintro ⟨mm, s1, M⟩ f w ⟨hmm, hM, hS, h7, h6, h2, h5, H⟩
    simp only at hmm hM hS h7 h6 h2 h5 H
    rw [← upd_self h7, ← upd_self h6, ← upd_self h2, ← upd_self h5]
    refine WC_seq ?_
    refine WC_seq ?_
    refine WC_region ?_
    refine WL_x (x_move (v := .int .i64 _) rfl) ?_
    refine WL_x (x_binop rfl rfl (r_gtr _ _ _ _)) ?_
    refine WL_nil ?_
    refine thenE_normal ?_
    refine WC_ifd rfl (fun h15 => ?_) (fun h15 => ?_)
    · obtain ⟨m, rfl⟩ : ∃ m0, mm = m0 + 2 := ⟨mm - 2, by omega⟩
      refine WC_skip ?_
      refine thenE_normal ?_
      refine WC_seq ?_
      refine WC_block ?_
      refine WC_seq ?_
      refine WC_region ?_
      refine WL_x (x_assign (v := (.int .u32 0)) rfl) ?_
      refine WL_nil ?_
      refine thenE_normal ?_
      refine WC_seq ?_
      refine WC_region ?_
      first | refine WL_x (x_loadA (n := 1) Try.underlying27 rfl (by kernel_rfl) rfl rfl (H.rangeAll .zero rfl rfl)) ?_ | refine WL_x (x_loadA (n := 1) Try.underlying27 rfl (by kernel_rfl) rfl rfl (H.rangeAll (.succ .zero) rfl rfl)) ?_ | refine WL_x (x_loadA (n := 1) Try.underlying27 rfl (by kernel_rfl) rfl rfl (H.rangeAll (.succ (.succ .zero)) rfl rfl)) ?_ | refine WL_x (x_loadA (n := 1) Try.underlying27 rfl (by kernel_rfl) rfl rfl (H.rangeAll (.succ (.succ (.succ .zero))) rfl rfl)) ?_ | refine WL_x (x_loadA (n := 1) Try.underlying27 rfl (by kernel_rfl) rfl rfl (H.rangeAll (.succ (.succ (.succ (.succ .zero)))) rfl rfl)) ?_
      refine WL_x (x_move (v := .int .i64 _) rfl) ?_
      refine WL_x (x_binop rfl rfl (r_add_in (i64_in (by omega) (by omega)))) ?_
      refine WL_x (x_convert Try.underlying3 Try.underlying35 rfl (u32_in (by omega) (by omega))) ?_
      refine WL_call (vs := [.agg (List.toArray _), .int .u32 _]) Try.func11 rfl rfl rfl (below_ok _ _ _ (by omega)) ?_
      rintro _ w ⟨rfl, hf⟩
      refine ⟨_, rfl, ?_⟩
      replace H := H.quiet hf
      have hb1 := belowX_range s1 ((m + 2 : Nat) : Int)
      have hb2 := belowX_lt s1 ((m + 2 : Nat) : Int) (by omega) (by omega)
      have em : (((m + 2 : Nat) : Int) - 1 + 1) = ((m + 2 : Nat) : Int) := by omega
      rw [em]
      obtain ⟨kk, hkk⟩ : ∃ kk : Nat, kk = (belowX s1 ((m + 2 : Nat) : Int)).toNat := ⟨_, rfl⟩
      have ekk : belowX s1 ((m + 2 : Nat) : Int) = (kk : Nat) := by omega
      rw [ekk]
      refine WL_x (x_move (v := .tuple _) rfl) ?_
      refine WL_x (x_extract (v := .int .u32 _) rfl rfl) ?_
      refine WL_x (x_extract (v := .agg (List.toArray _)) rfl rfl) ?_
      refine WL_x (x_assign (v := .int .u32 _) rfl) ?_
      first | refine WL_storeA rfl rfl rfl (by kernel_rfl) H .zero (Nat.le_of_ble_eq_true rfl) (splice_all _ _ rfl) ?_ | refine WL_storeA rfl rfl rfl (by kernel_rfl) H (.succ .zero) (Nat.le_of_ble_eq_true rfl) (splice_all _ _ rfl) ?_ | refine WL_storeA rfl rfl rfl (by kernel_rfl) H (.succ (.succ .zero)) (Nat.le_of_ble_eq_true rfl) (splice_all _ _ rfl) ?_ | refine WL_storeA rfl rfl rfl (by kernel_rfl) H (.succ (.succ (.succ .zero))) (Nat.le_of_ble_eq_true rfl) (splice_all _ _ rfl) ?_ | refine WL_storeA rfl rfl rfl (by kernel_rfl) H (.succ (.succ (.succ (.succ .zero)))) (Nat.le_of_ble_eq_true rfl) (splice_all _ _ rfl) ?_
      clear H; intro w H
      refine WL_nil ?_
      refine thenE_normal ?_
      refine WC_drawT (m := 16) (listed := [false, false, false, false, false, false, false, false, false, false, false, false, false, false, false, false]) (by kernel_rfl) rfl rfl H ?_
      intro w H
      refine WG_take (i := 2) (listed' := [false, false, true, false, false, false, false, false, false, false, false, false, false, false, false, false]) rfl (by kernel_rfl) (fun w _ => x_move (v := .slice _ _ _) rfl) trivial rfl ?_
      refine WG_take (i := 3) (listed' := [false, false, true, true, false, false, false, false, false, false, false, false, false, false, false, false]) rfl (by kernel_rfl) (fun w _ => x_move (v := .int .u32 _) rfl) trivial rfl ?_
      refine WG_true (S := fun w => St W [] [row A c 21 1 n (nums .i32 M.toList), blk b5 [.int .u64 0] 27, blk b2 [.int .u64 (stepS s1)] 27] [Go.HW.cells A0 (nums .i32 d.toList)] w) (n := 13) rfl ?_
      refine WG_take (i := 0) (listed' := [true, false, true, true, false, false, false, false, false, false, false, false, false, false, false, false]) rfl (by kernel_rfl) (fun w H => x_move (v := .slice _ _ _) rfl) H rfl ?_
      refine WG_take (i := 1) (listed' := [true, true, true, true, false, false, false, false, false, false, false, false, false, false, false, false]) rfl (by kernel_rfl) (fun w H => x_move (v := .int .i64 _) rfl) H rfl ?_
      refine WG_take (i := 4) (listed' := [true, true, true, true, true, false, false, false, false, false, false, false, false, false, false, false]) rfl (by kernel_rfl) (fun w H => x_move (v := .slice _ _ _) rfl) H rfl ?_
      refine WG_take (i := 5) (listed' := [true, true, true, true, true, true, false, false, false, false, false, false, false, false, false, false]) rfl (by kernel_rfl) (fun w H => x_move (v := .int .u32 _) rfl) H rfl ?_
      refine WG_take (i := 6) (listed' := [true, true, true, true, true, true, true, false, false, false, false, false, false, false, false, false]) rfl (by kernel_rfl) (fun w H => x_indexAddr (s := 1) Try.underlying23 (by kernel_rfl) rfl rfl (by omega) (by omega) (by first | rfl | assumption | exact H.rsomen .zero (by omega) | exact H.rsomen (.succ .zero) (by omega) | exact H.rsomen (.succ (.succ .zero)) (by omega) | exact H.osomen .zero (by omega) | exact H.osomen (.succ .zero) (by omega) | exact H.osomen (.succ (.succ .zero)) (by omega)) rfl) H rfl ?_
      first | refine WG_take (i := 7) (listed' := [true, true, true, true, true, true, true, true, false, false, false, false, false, false, false, false]) rfl (by kernel_rfl) (fun w H => x_load (v := .int .i32 _) Try.underlying21 rfl rfl (H.cellAt .zero rfl)) H rfl ?_ | refine WG_take (i := 7) (listed' := [true, true, true, true, true, true, true, true, false, false, false, false, false, false, false, false]) rfl (by kernel_rfl) (fun w H => x_load (v := .int .i32 _) Try.underlying21 rfl rfl (H.cellAt (.succ .zero) rfl)) H rfl ?_ | refine WG_take (i := 7) (listed' := [true, true, true, true, true, true, true, true, false, false, false, false, false, false, false, false]) rfl (by kernel_rfl) (fun w H => x_load (v := .int .i32 _) Try.underlying21 rfl rfl (H.cellAt (.succ (.succ .zero)) rfl)) H rfl ?_ | refine WG_take (i := 7) (listed' := [true, true, true, true, true, true, true, true, false, false, false, false, false, false, false, false]) rfl (by kernel_rfl) (fun w H => x_load (v := .int .i32 _) Try.underlying21 rfl rfl (H.cellAt (.succ (.succ (.succ .zero))) rfl)) H rfl ?_ | refine WG_take (i := 7) (listed' := [true, true, true, true, true, true, true, true, false, false, false, false, false, false, false, false]) rfl (by kernel_rfl) (fun w H => x_load (v := .int .i32 _) Try.underlying21 rfl rfl (H.cellAt (.succ (.succ (.succ (.succ .zero)))) rfl)) H rfl ?_ | refine WG_take (i := 7) (listed' := [true, true, true, true, true, true, true, true, false, false, false, false, false, false, false, false]) rfl (by kernel_rfl) (fun w H => x_load Try.underlying21 rfl rfl (H.rnum .zero (by omega) (by omega))) H rfl ?_ | refine WG_take (i := 7) (listed' := [true, true, true, true, true, true, true, true, false, false, false, false, false, false, false, false]) rfl (by kernel_rfl) (fun w H => x_load Try.underlying21 rfl rfl (H.rnum (.succ .zero) (by omega) (by omega))) H rfl ?_ | refine WG_take (i := 7) (listed' := [true, true, true, true, true, true, true, true, false, false, false, false, false, false, false, false]) rfl (by kernel_rfl) (fun w H => x_load Try.underlying21 rfl rfl (H.rnum (.succ (.succ .zero)) (by omega) (by omega))) H rfl ?_ | refine WG_take (i := 7) (listed' := [true, true, true, true, true, true, true, true, false, false, false, false, false, false, false, false]) rfl (by kernel_rfl) (fun w H => x_load Try.underlying21 rfl rfl (H.onum .zero (by omega) (by omega))) H rfl ?_ | refine WG_take (i := 7) (listed' := [true, true, true, true, true, true, true, true, false, false, false, false, false, false, false, false]) rfl (by kernel_rfl) (fun w H => x_load Try.underlying21 rfl rfl (H.onum (.succ .zero) (by omega) (by omega))) H rfl ?_ | refine WG_take (i := 7) (listed' := [true, true, true, true, true, true, true, true, false, false, false, false, false, false, false, false]) rfl (by kernel_rfl) (fun w H => x_load Try.underlying21 rfl rfl (H.onum (.succ (.succ .zero)) (by omega) (by omega))) H rfl ?_
      refine WG_take (i := 8) (listed' := [true, true, true, true, true, true, true, true, true, false, false, false, false, false, false, false]) rfl (by kernel_rfl) (fun w H => x_move (v := .slice _ _ _) rfl) H rfl ?_
      refine WG_take (i := 9) (listed' := [true, true, true, true, true, true, true, true, true, true, false, false, false, false, false, false]) rfl (by kernel_rfl) (fun w H => x_move (v := .int .i64 _) rfl) H rfl ?_
      refine WG_take (i := 10) (listed' := [true, true, true, true, true, true, true, true, true, true, true, false, false, false, false, false]) rfl (by kernel_rfl) (fun w H => x_indexAddr (s := 1) Try.underlying23 (by kernel_rfl) rfl rfl (by omega) (by omega) (by first | rfl | assumption | exact H.rsomen .zero (by omega) | exact H.rsomen (.succ .zero) (by omega) | exact H.rsomen (.succ (.succ .zero)) (by omega) | exact H.osomen .zero (by omega) | exact H.osomen (.succ .zero) (by omega) | exact H.osomen (.succ (.succ .zero)) (by omega)) rfl) H rfl ?_
      first | refine WG_take (i := 11) (listed' := [true, true, true, true, true, true, true, true, true, true, true, true, false, false, false, false]) rfl (by kernel_rfl) (fun w H => x_load (v := .int .i32 _) Try.underlying21 rfl rfl (H.cellAt .zero rfl)) H rfl ?_ | refine WG_take (i := 11) (listed' := [true, true, true, true, true, true, true, true, true, true, true, true, false, false, false, false]) rfl (by kernel_rfl) (fun w H => x_load (v := .int .i32 _) Try.underlying21 rfl rfl (H.cellAt (.succ .zero) rfl)) H rfl ?_ | refine WG_take (i := 11) (listed' := [true, true, true, true, true, true, true, true, true, true, true, true, false, false, false, false]) rfl (by kernel_rfl) (fun w H => x_load (v := .int .i32 _) Try.underlying21 rfl rfl (H.cellAt (.succ (.succ .zero)) rfl)) H rfl ?_ | refine WG_take (i := 11) (listed' := [true, true, true, true, true, true, true, true, true, true, true, true, false, false, false, false]) rfl (by kernel_rfl) (fun w H => x_load (v := .int .i32 _) Try.underlying21 rfl rfl (H.cellAt (.succ (.succ (.succ .zero))) rfl)) H rfl ?_ | refine WG_take (i := 11) (listed' := [true, true, true, true, true, true, true, true, true, true, true, true, false, false, false, false]) rfl (by kernel_rfl) (fun w H => x_load (v := .int .i32 _) Try.underlying21 rfl rfl (H.cellAt (.succ (.succ (.succ (.succ .zero)))) rfl)) H rfl ?_ | refine WG_take (i := 11) (listed' := [true, true, true, true, true, true, true, true, true, true, true, true, false, false, false, false]) rfl (by kernel_rfl) (fun w H => x_load Try.underlying21 rfl rfl (H.rnum .zero (by omega) (by omega))) H rfl ?_ | refine WG_take (i := 11) (listed' := [true, true, true, true, true, true, true, true, true, true, true, true, false, false, false, false]) rfl (by kernel_rfl) (fun w H => x_load Try.underlying21 rfl rfl (H.rnum (.succ .zero) (by omega) (by omega))) H rfl ?_ | refine WG_take (i := 11) (listed' := [true, true, true, true, true, true, true, true, true, true, true, true, false, false, false, false]) rfl (by kernel_rfl) (fun w H => x_load Try.underlying21 rfl rfl (H.rnum (.succ (.succ .zero)) (by omega) (by omega))) H rfl ?_ | refine WG_take (i := 11) (listed' := [true, true, true, true, true, true, true, true, true, true, true, true, false, false, false, false]) rfl (by kernel_rfl) (fun w H => x_load Try.underlying21 rfl rfl (H.onum .zero (by omega) (by omega))) H rfl ?_ | refine WG_take (i := 11) (listed' := [true, true, true, true, true, true, true, true, true, true, true, true, false, false, false, false]) rfl (by kernel_rfl) (fun w H => x_load Try.underlying21 rfl rfl (H.onum (.succ .zero) (by omega) (by omega))) H rfl ?_ | refine WG_take (i := 11) (listed' := [true, true, true, true, true, true, true, true, true, true, true, true, false, false, false, false]) rfl (by kernel_rfl) (fun w H => x_load Try.underlying21 rfl rfl (H.onum (.succ (.succ .zero)) (by omega) (by omega))) H rfl ?_
      refine WG_take (i := 12) (listed' := [true, true, true, true, true, true, true, true, true, true, true, true, true, false, false, false]) rfl (by kernel_rfl) (fun w H => x_indexAddr (s := 1) Try.underlying23 (by kernel_rfl) rfl rfl (by omega) (by omega) (by first | rfl | assumption | exact H.rsomen .zero (by omega) | exact H.rsomen (.succ .zero) (by omega) | exact H.rsomen (.succ (.succ .zero)) (by omega) | exact H.osomen .zero (by omega) | exact H.osomen (.succ .zero) (by omega) | exact H.osomen (.succ (.succ .zero)) (by omega)) rfl) H rfl ?_
      refine WG_next (fun w => St W [] [row A c 21 1 n (nums .i32 (M.setIfInBounds (m + 1) M[kk]!).toList), blk b5 [.int .u64 0] 27, blk b2 [.int .u64 (stepS s1)] 27] [Go.HW.cells A0 (nums .i32 d.toList)] w) 15 (listed' := [true, true, true, true, true, true, true, true, true, true, true, true, true, true, false, false]) rfl rfl (by kernel_rfl) rfl ?_
      refine WL_storeR (v := .int .i32 _) (o := (m + 1)) (n := n) (xs := nums .i32 M.toList) (xs' := nums .i32 (M.setIfInBounds (m + 1) M[kk]!).toList) Try.underlying21 rfl rfl rfl rfl (by kernel_rfl) (by omega) H .zero (by rw [nums_length]; omega) (nums_setA _ _ _ (nth_at (by omega))) ?_
      clear H; intro w H
      refine WL_nil ?_
      refine nx_mk ?_
      refine WG_take (i := 14) (listed' := [true, true, true, true, true, true, true, true, true, true, true, true, true, true, true, false]) rfl (by kernel_rfl) (fun w H => x_indexAddr (s := 1) Try.underlying23 (by kernel_rfl) rfl rfl (by omega) (by omega) (H.osomen .zero (by rw [len_setA]; omega)) rfl) H rfl ?_
      refine WG_fin (listed' := [true, true, true, true, true, true, true, true, true, true, true, true, true, true, true, true]) rfl rfl (by kernel_rfl) rfl (by kernel_rfl) ?_
      refine WL_storeR (v := .int .i32 _) (o := kk) (n := n) (xs := nums .i32 (M.setIfInBounds (m + 1) M[kk]!).toList) (xs' := nums .i32 (Go.Sort.swp M (m + 1) kk).toList) Try.underlying21 rfl rfl rfl rfl (by kernel_rfl) (by omega) H .zero (by rw [nums_length, len_setA]; omega) (nums_setA _ _ _ (nth_at (by omega))) ?_
      clear H; intro w H
      have hM2 : (Go.Sort.swp M (m + 1) kk).toList.length = n := by rw [len_swp]; exact hM
      refine WL_nil ?_
      refine fin_mk ?_
      refine inBlockE_normal ?_
      refine thenE_normal ?_
      refine WC_region ?_
      refine WL_x (x_move (v := .int .i64 _) rfl) ?_
      refine WL_x (x_binop rfl rfl (r_sub_in (i64_in (by omega) (by omega)))) ?_
      refine WL_x (x_assign (v := .int .i64 _) rfl) ?_
      refine WL_nil ?_
      refine thenE_normal ?_
      exact ⟨(m + 1, stepS s1, Go.Sort.swp M (m + 1) kk), ⟨by simp only; omega, hM2, by simp only; rw [← hS, shufM_go, hkk], (congrArg (Value.int .i64) (by first | omega | rfl | (simp only; omega))), rfl, rfl, rfl, H⟩, by simp only; omega⟩
    · have hR : shufM n s0 d = (M, s1) := by rw [← hS, shufM_end (by omega)]
      refine WC_exit ?_
      refine thenE_exit ?_
      refine thenE_exit ?_
      refine inBlockE_exit ?_
      refine thenE_normal ?_
      refine WC_seq ?_
      refine WC_drawH (m := 4) (listed := [false, false, false, false]) 3 (by kernel_rfl) rfl rfl H ?_
      intro w H
      refine WG_take (i := 0) (listed' := [true, false, false, false]) rfl (by kernel_rfl) (fun w H => x_move (v := .slice _ _ _) rfl) H rfl ?_
      first | refine WG_take (i := 1) (listed' := [true, true, false, false]) rfl (by kernel_rfl) (fun w H => x_loadA (n := 1) Try.underlying27 rfl (by kernel_rfl) rfl rfl (H.rangeAll .zero rfl rfl)) H rfl ?_ | refine WG_take (i := 1) (listed' := [true, true, false, false]) rfl (by kernel_rfl) (fun w H => x_loadA (n := 1) Try.underlying27 rfl (by kernel_rfl) rfl rfl (H.rangeAll (.succ .zero) rfl rfl)) H rfl ?_ | refine WG_take (i := 1) (listed' := [true, true, false, false]) rfl (by kernel_rfl) (fun w H => x_loadA (n := 1) Try.underlying27 rfl (by kernel_rfl) rfl rfl (H.rangeAll (.succ (.succ .zero)) rfl rfl)) H rfl ?_ | refine WG_take (i := 1) (listed' := [true, true, false, false]) rfl (by kernel_rfl) (fun w H => x_loadA (n := 1) Try.underlying27 rfl (by kernel_rfl) rfl rfl (H.rangeAll (.succ (.succ (.succ .zero))) rfl rfl)) H rfl ?_ | refine WG_take (i := 1) (listed' := [true, true, false, false]) rfl (by kernel_rfl) (fun w H => x_loadA (n := 1) Try.underlying27 rfl (by kernel_rfl) rfl rfl (H.rangeAll (.succ (.succ (.succ (.succ .zero)))) rfl rfl)) H rfl ?_
      refine WG_take (i := 2) (listed' := [true, true, true, false]) rfl (by kernel_rfl) (fun w H => x_assign (v := .slice _ _ _) rfl) H rfl ?_
      refine WG_fin (listed' := [true, true, true, true]) rfl rfl (by kernel_rfl) rfl (by kernel_rfl) ?_
      first | refine WL_storeA rfl rfl rfl (by kernel_rfl) H .zero (Nat.le_of_ble_eq_true rfl) (splice_all _ _ rfl) ?_ | refine WL_storeA rfl rfl rfl (by kernel_rfl) H (.succ .zero) (Nat.le_of_ble_eq_true rfl) (splice_all _ _ rfl) ?_ | refine WL_storeA rfl rfl rfl (by kernel_rfl) H (.succ (.succ .zero)) (Nat.le_of_ble_eq_true rfl) (splice_all _ _ rfl) ?_ | refine WL_storeA rfl rfl rfl (by kernel_rfl) H (.succ (.succ (.succ .zero))) (Nat.le_of_ble_eq_true rfl) (splice_all _ _ rfl) ?_ | refine WL_storeA rfl rfl rfl (by kernel_rfl) H (.succ (.succ (.succ (.succ .zero)))) (Nat.le_of_ble_eq_true rfl) (splice_all _ _ rfl) ?_
      clear H; intro w H
      refine WL_nil ?_
      refine fin_mk ?_
      refine thenE_normal ?_
      refine WC_ret ?_
      rw [hR]
      refine endsR (rs := [.tmp 4, .cell 5 27]) (vs := [.slice A n c, .agg [.int .u64 s1].toArray]) Try.results6 ?_ ?_
      · exact .cons (.tmp rfl) (.cons (.agg (n := 1) (vs := [.int .u64 s1]) rfl Try.underlying27 rfl (by kernel_rfl) rfl (H.rangeAll (.succ .zero) rfl rfl)) .nil)
      exact ⟨A, c, rfl, H.fr, H.ok _ (by simp), fun b hb => (H.own _ (by simp) b hb).resolve_left (by simp)⟩

theorem rnext_ok (W : World) (s : Int) : Calls Try.prog 16 #[.int .u64 s] W fun e w' => e = .returned (.tuple #[.int .u32 (rollX s), .int .u64 (stepS s)]) ∧ Fr [] W w' := by
  have H : St W [] [] [] W := St.start [] (by simp)
  refine calls_enter (N := 26) Try.func16 rfl Try.ntmps16 rfl ?_
  refine WC_seq ?_
  refine WC_region ?_
  refine WL_x (x_assign (v := (.int .u32 0)) rfl) ?_
  refine WL_x (x_assign (v := (.int .u64 0)) rfl) ?_
  refine WL_nil ?_
  refine thenE_normal ?_
  refine WC_seq ?_
  refine WC_region ?_
  refine WL_x (x_move (v := .int .u64 _) rfl) ?_
  refine WL_x (x_binop rfl rfl (r_add _ _ _ _)) ?_
  refine WL_x (x_assign (v := .int .u64 _) rfl) ?_
  refine WL_nil ?_
  refine thenE_normal ?_
  refine WC_seq ?_
  refine WC_region ?_
  refine WL_x (x_move (v := .int .u64 _) rfl) ?_
  refine WL_x (x_assign (v := .int .u64 _) rfl) ?_
  refine WL_nil ?_
  refine thenE_normal ?_
  refine WC_seq ?_
  refine WC_region ?_
  refine WL_x (x_move (v := .int .u64 _) rfl) ?_
  refine WL_x (x_move (v := .int .u64 _) rfl) ?_
  refine WL_x (x_binop rfl rfl (r_quo (by omega))) ?_
  refine WL_x (x_binop rfl rfl (r_xor _ _ _ _)) ?_
  refine WL_x (x_binop rfl rfl (r_mul _ _ _ _)) ?_
  refine WL_x (x_assign (v := .int .u64 _) rfl) ?_
  refine WL_nil ?_
  refine thenE_normal ?_
  refine WC_seq ?_
  refine WC_region ?_
  refine WL_x (x_move (v := .int .u64 _) rfl) ?_
  refine WL_x (x_move (v := .int .u64 _) rfl) ?_
  refine WL_x (x_binop rfl rfl (r_quo (by omega))) ?_
  refine WL_x (x_binop rfl rfl (r_xor _ _ _ _)) ?_
  refine WL_x (x_binop rfl rfl (r_mul _ _ _ _)) ?_
  refine WL_x (x_assign (v := .int .u64 _) rfl) ?_
  refine WL_nil ?_
  refine thenE_normal ?_
  refine WC_seq ?_
  refine WC_region ?_
  refine WL_x (x_move (v := .int .u64 _) rfl) ?_
  refine WL_x (x_move (v := .int .u64 _) rfl) ?_
  refine WL_x (x_binop rfl rfl (r_quo (by omega))) ?_
  refine WL_x (x_binop rfl rfl (r_xor _ _ _ _)) ?_
  refine WL_x (x_assign (v := .int .u64 _) rfl) ?_
  refine WL_nil ?_
  refine thenE_normal ?_
  refine WC_seq ?_
  refine WC_region ?_
  refine WL_x (x_move (v := .int .u64 _) rfl) ?_
  refine WL_x (x_binop rfl rfl (r_quo (by omega))) ?_
  refine WL_x (x_convert Try.underlying22 Try.underlying35 rfl rfl) ?_
  refine WL_x (x_move (v := .int .u64 _) rfl) ?_
  refine WL_x (x_assign (v := .int .u32 _) rfl) ?_
  refine WL_x (x_assign (v := .int .u64 _) rfl) ?_
  refine WL_nil ?_
  refine thenE_normal ?_
  refine WC_ret ?_
  refine ends2 (v1 := .int .u32 _) (v2 := .int .u64 _) Try.results16 rfl rfl ?_
  have e1 : IntKind.u64.wrap ((stepS s).tdiv 1073741824) = stepS s / 1073741824 := quo64 (stepS_range s) (by decide)
  have e2 : IntKind.u64.wrap ((mixA (stepS s)).tdiv 134217728) = mixA (stepS s) / 134217728 := quo64 (w64_range _) (by decide)
  have e3 : IntKind.u64.wrap ((mixB (mixA (stepS s))).tdiv 2147483648) = mixB (mixA (stepS s)) / 2147483648 := quo64 (w64_range _) (by decide)
  have e4 : IntKind.u64.wrap ((mixZ (stepS s)).tdiv 4294967296) = mixZ (stepS s) / 4294967296 := quo64 (xr_range _ _) (by decide)
  refine ⟨?_, H.fr⟩
  unfold stepS w64 at e1
  rw [e1]
  unfold mixA stepS xr w64 at e2
  rw [e2]
  unfold mixB mixA stepS xr w64 at e3
  rw [e3]
  unfold mixZ mixC mixB mixA stepS xr w64 at e4
  rw [e4]
  rfl

theorem rbelow_ok (W : World) (s m : Int) (hm : 0 ≤ m ∧ m < 4294967296) : Calls Try.prog 12 #[.int .u64 s, .int .u32 m] W fun e w' => e = .returned (.tuple #[.int .u32 (belowX s m), .int .u64 (stepS s)]) ∧ Fr [] W w' := by
  have H : St W [] [] [] W := St.start [] (by simp)
  refine calls_enter (N := 20) Try.func12 rfl Try.ntmps12 rfl ?_
  refine WC_seq ?_
  refine WC_region ?_
  refine WL_x (x_assign (v := (.int .u32 0)) rfl) ?_
  refine WL_x (x_assign (v := (.int .u64 0)) rfl) ?_
  refine WL_nil ?_
  refine thenE_normal ?_
  refine WC_seq ?_
  refine WC_region ?_
  refine WL_x (x_move (v := .int .u64 _) rfl) ?_
  refine WL_call (vs := [.int .u64 _]) Try.func16 rfl rfl rfl (rnext_ok _ _) ?_
  rintro _ w ⟨rfl, hf⟩
  refine ⟨_, rfl, ?_⟩
  replace H := H.quiet hf
  have hr := rollX_range s
  refine WL_x (x_move (v := .tuple _) rfl) ?_
  refine WL_x (x_extract (v := .int .u32 _) rfl rfl) ?_
  refine WL_x (x_extract (v := .int .u64 _) rfl rfl) ?_
  refine WL_x (x_assign (v := .int .u32 _) rfl) ?_
  refine WL_x (x_assign (v := .int .u64 _) rfl) ?_
  refine WL_nil ?_
  refine thenE_normal ?_
  refine WC_seq ?_
  refine WC_region ?_
  refine WL_x (x_move (v := .int .u32 _) rfl) ?_
  refine WL_x (x_convert Try.underlying35 Try.underlying22 rfl (u64_in (by omega) (by omega))) ?_
  refine WL_x (x_move (v := .int .u32 _) rfl) ?_
  refine WL_x (x_convert Try.underlying35 Try.underlying22 rfl (u64_in (by omega) (by omega))) ?_
  refine WL_x (x_binop rfl rfl (r_mul _ _ _ _)) ?_
  refine WL_x (x_binop rfl rfl (r_quo (by omega))) ?_
  refine WL_x (x_convert Try.underlying22 Try.underlying35 rfl rfl) ?_
  refine WL_x (x_move (v := .int .u64 _) rfl) ?_
  refine WL_x (x_assign (v := .int .u32 _) rfl) ?_
  refine WL_x (x_assign (v := .int .u64 _) rfl) ?_
  refine WL_nil ?_
  refine thenE_normal ?_
  refine WC_ret ?_
  refine ends2 (v1 := .int .u32 _) (v2 := .int .u64 _) Try.results12 rfl rfl ?_
  have e : IntKind.u64.wrap ((w64 (rollX s * m)).tdiv 4294967296) = w64 (rollX s * m) / 4294967296 := quo64 (w64_range _) (by decide)
  refine ⟨?_, H.fr⟩
  unfold w64 at e
  rw [e]
  rfl

set_option maxHeartbeats 1000000 in
theorem rshuffle_i32 (W : World) (s0 : Int) (d : Array Int) (A0 : Option Addr) (c0 n : Nat) (hx : Cells W A0 (nums .i32 d.toList)) (hM : d.toList.length = n) (hn : n ≤ 1000000) :
    Calls Try.prog 7 #[.int .u64 s0, .slice A0 n c0] W fun e w' => ∃ A c, e = .returned (.tuple #[.slice A n c, .int .u64 (shufM n s0 d).2]) ∧ Fr [] W w' ∧ (row A c 21 1 n (nums .i32 (shufM n s0 d).1.toList)).ok w' ∧ ∀ b, b ∈ (row A c 21 1 n (nums .i32 (shufM n s0 d).1.toList)).fp → W.heap.size ≤ b := by
  have H : St W [] [] [Go.HW.cells A0 (nums .i32 d.toList)] W := St.start [] (by simp; exact cells_ok hx)
  refine calls_enter (N := 45) Try.func7 rfl Try.ntmps7 rfl ?_
  refine WC_seq ?_
  refine WC_region ?_
  refine WL_x (x_assign (v := (.slice none 0 0)) rfl) ?_
  refine WL_x (x_assign (v := (.int .u64 0)) rfl) ?_
  refine WL_nil ?_
  refine thenE_normal ?_
  refine WC_seq ?_
  refine WC_region ?_
  refine WL_buildSliceS (s := 1) (z0 := [.int .i32 0]) (zero := []) (cells := []) (vs := []) Try.underlying23 (by kernel_rfl) (by kernel_rfl) rfl rfl rfl rfl H ?_
  intro b5 w H
  replace H := H.toRow 0 1 .zero rfl (by simp [maxLen])
  refine WL_x (x_move (v := .slice _ _ _) rfl) ?_
  refine WL_append (i := Try.t21) (bytes := 4) (size := 1) Try.underlying23 (by kernel_rfl) rfl rfl rfl (by kernel_rfl) rfl rfl rfl H (fun _ _ => .zero) (by rw [nums_length, hM, Nat.mul_one]) (H.rcells .zero) (nums_one _ _) (by simp only [maxLen]; omega) (by omega) ?_
  intro A c w H
  rw [Nat.zero_add] at *
  rw [List.nil_append] at H
  have hlc := owns_len (H.get (Has.mem .zero))
  unfold maxLen at hlc
  refine WL_x (x_assign (v := .slice _ _ _) rfl) ?_
  refine WL_nil ?_
  refine thenE_normal ?_
  refine WC_seq ?_
  refine WC_seq ?_
  refine WC_region ?_
  refine WL_x (x_move (v := .slice _ _ _) rfl) ?_
  refine WL_x (x_len Try.underlying23 rfl) ?_
  refine WL_x (x_assign (v := .int .i64 _) rfl) ?_
  refine WL_nil ?_
  refine thenE_normal ?_
  refine WC_block ?_
  refine WC_while (fun (s : Nat × Int × Array Int) f w' => s.1 ≤ n ∧ s.2.2.toList.length = n ∧ shufM s.1 s.2.1 s.2.2 = shufM n s0 d ∧ f 7 = .int .i64 (s.1 : Int) ∧ f 6 = .slice A n c ∧ f 0 = .int .u64 s.2.1 ∧ St W [] [row A c 21 1 n (nums .i32 s.2.2.toList)] [Go.HW.cells A0 (nums .i32 d.toList)] w') (fun s => s.1) (s0 := (n, s0, d)) ?_ ?_
  · exact ⟨Nat.le_refl _, hM, rfl, rfl, rfl, rfl, H⟩
  · clear H hM
    rintro ⟨mm, s1, M⟩ f w ⟨hmm, hM, hS, h7, h6, h0, H⟩
    simp only at hmm hM hS h7 h6 h0 H
    rw [← upd_self h7, ← upd_self h6, ← upd_self h0]
    refine WC_seq ?_
    refine WC_seq ?_
    refine WC_region ?_
    refine WL_x (x_move (v := .int .i64 _) rfl) ?_
    refine WL_x (x_binop rfl rfl (r_gtr _ _ _ _)) ?_
    refine WL_nil ?_
    refine thenE_normal ?_
    refine WC_ifd rfl (fun h16 => ?_) (fun h16 => ?_)
    · obtain ⟨m, rfl⟩ : ∃ m0, mm = m0 + 2 := ⟨mm - 2, by omega⟩
      refine WC_skip ?_
      refine thenE_normal ?_
      refine WC_seq ?_
      refine WC_block ?_
      refine WC_seq ?_
      refine WC_region ?_
      refine WL_x (x_move (v := .int .u64 _) rfl) ?_
      refine WL_x (x_move (v := .int .i64 _) rfl) ?_
      refine WL_x (x_convert Try.underlying3 Try.underlying35 rfl (u32_in (by omega) (by omega))) ?_
      refine WL_call (vs := [.int .u64 _, .int .u32 _]) Try.func12 rfl rfl rfl (rbelow_ok _ _ _ (by omega)) ?_
      rintro _ w ⟨rfl, hf⟩
      refine ⟨_, rfl, ?_⟩
      replace H := H.quiet hf
      have hb1 := belowX_range s1 ((m + 2 : Nat) : Int)
      have hb2 := belowX_lt s1 ((m + 2 : Nat) : Int) (by omega) (by omega)
      obtain ⟨kk, hkk⟩ : ∃ kk : Nat, kk = (belowX s1 ((m + 2 : Nat) : Int)).toNat := ⟨_, rfl⟩
      have ekk : belowX s1 ((m + 2 : Nat) : Int) = (kk : Nat) := by omega
      rw [ekk]
      refine WL_x (x_move (v := .tuple _) rfl) ?_
      refine WL_x (x_extract (v := .int .u32 _) rfl rfl) ?_
      refine WL_x (x_extract (v := .int .u64 _) rfl rfl) ?_
      refine WL_x (x_assign (v := .int .u32 _) rfl) ?_
      refine WL_x (x_assign (v := .int .u64 _) rfl) ?_
      refine WL_nil ?_
      refine thenE_normal ?_
      refine WC_seq ?_
      refine WC_drawT (m := 18) (listed := [false, false, false, false, false, false, false, false, false, false, false, false, false, false, false, false, false, false]) (by kernel_rfl) rfl rfl H ?_
      intro w H
      refine WG_take (i := 3) (listed' := [false, false, false, true, false, false, false, false, false, false, false, false, false, false, false, false, false, false]) rfl (by kernel_rfl) (fun w _ => x_move (v := .slice _ _ _) rfl) trivial rfl ?_
      refine WG_take (i := 4) (listed' := [false, false, false, true, true, false, false, false, false, false, false, false, false, false, false, false, false, false]) rfl (by kernel_rfl) (fun w _ => x_move (v := .int .u32 _) rfl) trivial rfl ?_
      refine WG_true (S := fun w => St W [] [row A c 21 1 n (nums .i32 M.toList)] [Go.HW.cells A0 (nums .i32 d.toList)] w) (n := 15) rfl ?_
      refine WG_take (i := 0) (listed' := [true, false, false, true, true, false, false, false, false, false, false, false, false, false, false, false, false, false]) rfl (by kernel_rfl) (fun w H => x_move (v := .slice _ _ _) rfl) H rfl ?_
      refine WG_take (i := 1) (listed' := [true, true, false, true, true, false, false, false, false, false, false, false, false, false, false, false, false, false]) rfl (by kernel_rfl) (fun w H => x_move (v := .int .i64 _) rfl) H rfl ?_
      refine WG_take (i := 2) (listed' := [true, true, true, true, true, false, false, false, false, false, false, false, false, false, false, false, false, false]) rfl (by kernel_rfl) (fun w H => x_binop rfl rfl (r_sub_in (i64_in (by omega) (by omega)))) H rfl ?_
      refine WG_take (i := 5) (listed' := [true, true, true, true, true, true, false, false, false, false, false, false, false, false, false, false, false, false]) rfl (by kernel_rfl) (fun w H => x_move (v := .slice _ _ _) rfl) H rfl ?_
      refine WG_take (i := 6) (listed' := [true, true, true, true, true, true, true, false, false, false, false, false, false, false, false, false, false, false]) rfl (by kernel_rfl) (fun w H => x_move (v := .int .u32 _) rfl) H rfl ?_
      refine WG_take (i := 7) (listed' := [true, true, true, true, true, true, true, true, false, false, false, false, false, false, false, false, false, false]) rfl (by kernel_rfl) (fun w H => x_indexAddr (s := 1) Try.underlying23 (by kernel_rfl) rfl rfl (by omega) (by omega) (by first | rfl | assumption | exact H.rsomen .zero (by omega) | exact H.rsomen (.succ .zero) (by omega) | exact H.rsomen (.succ (.succ .zero)) (by omega) | exact H.osomen .zero (by omega) | exact H.osomen (.succ .zero) (by omega) | exact H.osomen (.succ (.succ .zero)) (by omega)) rfl) H rfl ?_
      first | refine WG_take (i := 8) (listed' := [true, true, true, true, true, true, true, true, true, false, false, false, false, false, false, false, false, false]) rfl (by kernel_rfl) (fun w H => x_load (v := .int .i32 _) Try.underlying21 rfl rfl (H.cellAt .zero rfl)) H rfl ?_ | refine WG_take (i := 8) (listed' := [true, true, true, true, true, true, true, true, true, false, false, false, false, false, false, false, false, false]) rfl (by kernel_rfl) (fun w H => x_load (v := .int .i32 _) Try.underlying21 rfl rfl (H.cellAt (.succ .zero) rfl)) H rfl ?_ | refine WG_take (i := 8) (listed' := [true, true, true, true, true, true, true, true, true, false, false, false, false, false, false, false, false, false]) rfl (by kernel_rfl) (fun w H => x_load (v := .int .i32 _) Try.underlying21 rfl rfl (H.cellAt (.succ (.succ .zero)) rfl)) H rfl ?_ | refine WG_take (i := 8) (listed' := [true, true, true, true, true, true, true, true, true, false, false, false, false, false, false, false, false, false]) rfl (by kernel_rfl) (fun w H => x_load (v := .int .i32 _) Try.underlying21 rfl rfl (H.cellAt (.succ (.succ (.succ .zero))) rfl)) H rfl ?_ | refine WG_take (i := 8) (listed' := [true, true, true, true, true, true, true, true, true, false, false, false, false, false, false, false, false, false]) rfl (by kernel_rfl) (fun w H => x_load (v := .int .i32 _) Try.underlying21 rfl rfl (H.cellAt (.succ (.succ (.succ (.succ .zero)))) rfl)) H rfl ?_ | refine WG_take (i := 8) (listed' := [true, true, true, true, true, true, true, true, true, false, false, false, false, false, false, false, false, false]) rfl (by kernel_rfl) (fun w H => x_load Try.underlying21 rfl rfl (H.rnum .zero (by omega) (by omega))) H rfl ?_ | refine WG_take (i := 8) (listed' := [true, true, true, true, true, true, true, true, true, false, false, false, false, false, false, false, false, false]) rfl (by kernel_rfl) (fun w H => x_load Try.underlying21 rfl rfl (H.rnum (.succ .zero) (by omega) (by omega))) H rfl ?_ | refine WG_take (i := 8) (listed' := [true, true, true, true, true, true, true, true, true, false, false, false, false, false, false, false, false, false]) rfl (by kernel_rfl) (fun w H => x_load Try.underlying21 rfl rfl (H.rnum (.succ (.succ .zero)) (by omega) (by omega))) H rfl ?_ | refine WG_take (i := 8) (listed' := [true, true, true, true, true, true, true, true, true, false, false, false, false, false, false, false, false, false]) rfl (by kernel_rfl) (fun w H => x_load Try.underlying21 rfl rfl (H.onum .zero (by omega) (by omega))) H rfl ?_ | refine WG_take (i := 8) (listed' := [true, true, true, true, true, true, true, true, true, false, false, false, false, false, false, false, false, false]) rfl (by kernel_rfl) (fun w H => x_load Try.underlying21 rfl rfl (H.onum (.succ .zero) (by omega) (by omega))) H rfl ?_ | refine WG_take (i := 8) (listed' := [true, true, true, true, true, true, true, true, true, false, false, false, false, false, false, false, false, false]) rfl (by kernel_rfl) (fun w H => x_load Try.underlying21 rfl rfl (H.onum (.succ (.succ .zero)) (by omega) (by omega))) H rfl ?_
      refine WG_take (i := 9) (listed' := [true, true, true, true, true, true, true, true, true, true, false, false, false, false, false, false, false, false]) rfl (by kernel_rfl) (fun w H => x_move (v := .slice _ _ _) rfl) H rfl ?_
      refine WG_take (i := 10) (listed' := [true, true, true, true, true, true, true, true, true, true, true, false, false, false, false, false, false, false]) rfl (by kernel_rfl) (fun w H => x_move (v := .int .i64 _) rfl) H rfl ?_
      refine WG_take (i := 11) (listed' := [true, true, true, true, true, true, true, true, true, true, true, true, false, false, false, false, false, false]) rfl (by kernel_rfl) (fun w H => x_binop rfl rfl (r_sub_in (i64_in (by omega) (by omega)))) H rfl ?_
      refine WG_take (i := 12) (listed' := [true, true, true, true, true, true, true, true, true, true, true, true, true, false, false, false, false, false]) rfl (by kernel_rfl) (fun w H => x_indexAddr (s := 1) Try.underlying23 (by kernel_rfl) rfl rfl (by omega) (by omega) (by first | rfl | assumption | exact H.rsomen .zero (by omega) | exact H.rsomen (.succ .zero) (by omega) | exact H.rsomen (.succ (.succ .zero)) (by omega) | exact H.osomen .zero (by omega) | exact H.osomen (.succ .zero) (by omega) | exact H.osomen (.succ (.succ .zero)) (by omega)) rfl) H rfl ?_
      first | refine WG_take (i := 13) (listed' := [true, true, true, true, true, true, true, true, true, true, true, true, true, true, false, false, false, false]) rfl (by kernel_rfl) (fun w H => x_load (v := .int .i32 _) Try.underlying21 rfl rfl (H.cellAt .zero rfl)) H rfl ?_ | refine WG_take (i := 13) (listed' := [true, true, true, true, true, true, true, true, true, true, true, true, true, true, false, false, false, false]) rfl (by kernel_rfl) (fun w H => x_load (v := .int .i32 _) Try.underlying21 rfl rfl (H.cellAt (.succ .zero) rfl)) H rfl ?_ | refine WG_take (i := 13) (listed' := [true, true, true, true, true, true, true, true, true, true, true, true, true, true, false, false, false, false]) rfl (by kernel_rfl) (fun w H => x_load (v := .int .i32 _) Try.underlying21 rfl rfl (H.cellAt (.succ (.succ .zero)) rfl)) H rfl ?_ | refine WG_take (i := 13) (listed' := [true, true, true, true, true, true, true, true, true, true, true, true, true, true, false, false, false, false]) rfl (by kernel_rfl) (fun w H => x_load (v := .int .i32 _) Try.underlying21 rfl rfl (H.cellAt (.succ (.succ (.succ .zero))) rfl)) H rfl ?_ | refine WG_take (i := 13) (listed' := [true, true, true, true, true, true, true, true, true, true, true, true, true, true, false, false, false, false]) rfl (by kernel_rfl) (fun w H => x_load (v := .int .i32 _) Try.underlying21 rfl rfl (H.cellAt (.succ (.succ (.succ (.succ .zero)))) rfl)) H rfl ?_ | refine WG_take (i := 13) (listed' := [true, true, true, true, true, true, true, true, true, true, true, true, true, true, false, false, false, false]) rfl (by kernel_rfl) (fun w H => x_load Try.underlying21 rfl rfl (H.rnum .zero (by omega) (by omega))) H rfl ?_ | refine WG_take (i := 13) (listed' := [true, true, true, true, true, true, true, true, true, true, true, true, true, true, false, false, false, false]) rfl (by kernel_rfl) (fun w H => x_load Try.underlying21 rfl rfl (H.rnum (.succ .zero) (by omega) (by omega))) H rfl ?_ | refine WG_take (i := 13) (listed' := [true, true, true, true, true, true, true, true, true, true, true, true, true, true, false, false, false, false]) rfl (by kernel_rfl) (fun w H => x_load Try.underlying21 rfl rfl (H.rnum (.succ (.succ .zero)) (by omega) (by omega))) H rfl ?_ | refine WG_take (i := 13) (listed' := [true, true, true, true, true, true, true, true, true, true, true, true, true, true, false, false, false, false]) rfl (by kernel_rfl) (fun w H => x_load Try.underlying21 rfl rfl (H.onum .zero (by omega) (by omega))) H rfl ?_ | refine WG_take (i := 13) (listed' := [true, true, true, true, true, true, true, true, true, true, true, true, true, true, false, false, false, false]) rfl (by kernel_rfl) (fun w H => x_load Try.underlying21 rfl rfl (H.onum (.succ .zero) (by omega) (by omega))) H rfl ?_ | refine WG_take (i := 13) (listed' := [true, true, true, true, true, true, true, true, true, true, true, true, true, true, false, false, false, false]) rfl (by kernel_rfl) (fun w H => x_load Try.underlying21 rfl rfl (H.onum (.succ (.succ .zero)) (by omega) (by omega))) H rfl ?_
      refine WG_take (i := 14) (listed' := [true, true, true, true, true, true, true, true, true, true, true, true, true, true, true, false, false, false]) rfl (by kernel_rfl) (fun w H => x_indexAddr (s := 1) Try.underlying23 (by kernel_rfl) rfl rfl (by omega) (by omega) (by first | rfl | assumption | exact H.rsomen .zero (by omega) | exact H.rsomen (.succ .zero) (by omega) | exact H.rsomen (.succ (.succ .zero)) (by omega) | exact H.osomen .zero (by omega) | exact H.osomen (.succ .zero) (by omega) | exact H.osomen (.succ (.succ .zero)) (by omega)) rfl) H rfl ?_
      refine WG_next (fun w => St W [] [row A c 21 1 n (nums .i32 (M.setIfInBounds (m + 1) M[kk]!).toList)] [Go.HW.cells A0 (nums .i32 d.toList)] w) 17 (listed' := [true, true, true, true, true, true, true, true, true, true, true, true, true, true, true, true, false, false]) rfl rfl (by kernel_rfl) rfl ?_
      refine WL_storeR (v := .int .i32 _) (o := (m + 1)) (n := n) (xs := nums .i32 M.toList) (xs' := nums .i32 (M.setIfInBounds (m + 1) M[kk]!).toList) Try.underlying21 rfl rfl rfl rfl (by kernel_rfl) (by omega) H .zero (by rw [nums_length]; omega) (nums_setA _ _ _ (nth_at (by omega))) ?_
      clear H; intro w H
      refine WL_nil ?_
      refine nx_mk ?_
      refine WG_take (i := 16) (listed' := [true, true, true, true, true, true, true, true, true, true, true, true, true, true, true, true, true, false]) rfl (by kernel_rfl) (fun w H => x_indexAddr (s := 1) Try.underlying23 (by kernel_rfl) rfl rfl (by omega) (by omega) (H.osomen .zero (by rw [len_setA]; omega)) rfl) H rfl ?_
      refine WG_fin (listed' := [true, true, true, true, true, true, true, true, true, true, true, true, true, true, true, true, true, true]) rfl rfl (by kernel_rfl) rfl (by kernel_rfl) ?_
      refine WL_storeR (v := .int .i32 _) (o := kk) (n := n) (xs := nums .i32 (M.setIfInBounds (m + 1) M[kk]!).toList) (xs' := nums .i32 (Go.Sort.swp M (m + 1) kk).toList) Try.underlying21 rfl rfl rfl rfl (by kernel_rfl) (by omega) H .zero (by rw [nums_length, len_setA]; omega) (nums_setA _ _ _ (nth_at (by omega))) ?_
      clear H; intro w H
      have hM2 : (Go.Sort.swp M (m + 1) kk).toList.length = n := by rw [len_swp]; exact hM
      refine WL_nil ?_
      refine fin_mk ?_
      refine thenE_normal ?_
      refine WC_region ?_
      refine WL_x (x_move (v := .int .u64 _) rfl) ?_
      refine WL_x (x_assign (v := .int .u64 _) rfl) ?_
      refine WL_nil ?_
      refine inBlockE_normal ?_
      refine thenE_normal ?_
      refine WC_region ?_
      refine WL_x (x_move (v := .int .i64 _) rfl) ?_
      refine WL_x (x_binop rfl rfl (r_sub_in (i64_in (by omega) (by omega)))) ?_
      refine WL_x (x_assign (v := .int .i64 _) rfl) ?_
      refine WL_nil ?_
      refine thenE_normal ?_
      exact ⟨(m + 1, stepS s1, Go.Sort.swp M (m + 1) kk), ⟨by simp only; omega, hM2, by simp only; rw [← hS, shufM_go, hkk], (congrArg (Value.int .i64) (by first | omega | rfl | (simp only; omega))), rfl, rfl, H⟩, by simp only; omega⟩
    · have hR : shufM n s0 d = (M, s1) := by rw [← hS, shufM_end (by omega)]
      refine WC_exit ?_
      refine thenE_exit ?_
      refine thenE_exit ?_
      refine inBlockE_exit ?_
      refine thenE_normal ?_
      refine WC_seq ?_
      refine WC_region ?_
      refine WL_x (x_move (v := .slice _ _ _) rfl) ?_
      refine WL_x (x_move (v := .int .u64 _) rfl) ?_
      refine WL_x (x_assign (v := .slice _ _ _) rfl) ?_
      refine WL_x (x_assign (v := .int .u64 _) rfl) ?_
      refine WL_nil ?_
      refine thenE_normal ?_
      refine WC_ret ?_
      refine ends2 (v1 := .slice _ _ _) (v2 := .int .u64 _) Try.results7 rfl rfl ?_
      rw [hR]
      exact ⟨A, c, rfl, H.fr, H.ok _ (by simp), fun b hb => (H.own _ (by simp) b hb).resolve_left (by simp)⟩
end Go.Proofs.Ytjagiknmaoilhaa
