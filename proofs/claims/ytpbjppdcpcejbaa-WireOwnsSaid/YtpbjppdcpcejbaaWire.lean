import Derived.Test.YtpbjppdcpcejbaaHWRow
import Derived.Test.YtpbjppdcpcejbaaProg
import Derived.KernelRfl
set_option linter.unusedSimpArgs false
set_option linter.unusedVariables false
namespace Go.Proofs.Ytpbjppdcpcejbaa
open Go Go.HW Go.RowKit

theorem waiting_ok (W : World) (r n c : Nat) (A : Option Addr) (H0 : Blk W r [.slice A n c] 28) :
    Calls Try.prog 10 #[.pointer (some ⟨r, 0, none⟩)] W fun e w' => e = .returned (.int .i64 n) ∧ w' = W := by
  have H : St W [r] [blk r [.slice A n c] 28] [] W := ⟨Fr.refl _ _, by simp; exact blk_ok H0, by simp, by simp [blk], by simp, by simp⟩
  refine calls_enter (N := 10) Try.func10 rfl Try.ntmps10 rfl ?_
  refine WC_seq ?_
  refine WC_region ?_
  refine WL_x (x_assign (v := (.int .i64 0)) rfl) ?_
  refine WL_nil ?_
  refine thenE_normal ?_
  refine WC_seq ?_
  refine WC_seq ?_
  refine WC_region ?_
  refine WL_x (x_move (v := .pointer _) rfl) ?_
  refine WL_x (x_ptr_eql_nil Try.underlying38 rfl rfl) ?_
  refine WL_nil ?_
  refine thenE_normal ?_
  refine WC_no rfl ?_
  refine WC_skip ?_
  refine thenE_normal ?_
  refine WC_seq ?_
  refine WC_region ?_
  refine WL_x (x_move (v := .pointer _) rfl) ?_
  refine WL_x (x_nilCheck rfl) ?_
  refine WL_x (x_fieldAddr (n := 0) (o' := _ + 0) Try.underlying28 rfl (by kernel_rfl) rfl rfl) ?_
  first | refine WL_x (x_load (v := .slice _ _ _) Try.underlying26 rfl rfl (H.cellAt .zero rfl)) ?_ | refine WL_x (x_load (v := .slice _ _ _) Try.underlying26 rfl rfl (H.cellAt (.succ .zero) rfl)) ?_ | refine WL_x (x_load (v := .slice _ _ _) Try.underlying26 rfl rfl (H.cellAt (.succ (.succ .zero)) rfl)) ?_ | refine WL_x (x_load (v := .slice _ _ _) Try.underlying26 rfl rfl (H.cellAt (.succ (.succ (.succ .zero))) rfl)) ?_ | refine WL_x (x_load (v := .slice _ _ _) Try.underlying26 rfl rfl (H.cellAt (.succ (.succ (.succ (.succ .zero)))) rfl)) ?_
  refine WL_x (x_len Try.underlying26 rfl) ?_
  refine WL_x (x_assign (v := .int .i64 _) rfl) ?_
  refine WL_nil ?_
  refine thenE_normal ?_
  refine WC_ret ?_
  refine ends1 (v := .int .i64 _) Try.results10 rfl ?_
  exact ⟨rfl, rfl⟩

theorem same_ok (W : World) (xs ys : List Int) (A B : Option Addr) (c d : Nat) (hx : Cells W A (nums .u8 xs)) (hy : Cells W B (nums .u8 ys)) (hl : xs.length ≤ maxLen) :
    Calls Try.prog 9 #[.slice A xs.length c, .slice B ys.length d] W fun e w' => e = .returned (.bool (decide (xs = ys))) ∧ Fr [] W w' := by
  unfold maxLen at hl
  have H : St W [] [] [cells A (nums .u8 xs), cells B (nums .u8 ys)] W := St.start [] (by simp; exact ⟨cells_ok hx, cells_ok hy⟩)
  refine calls_enter (N := 26) Try.func9 rfl Try.ntmps9 rfl ?_
  refine WC_seq ?_
  refine WC_region ?_
  refine WL_x (x_assign (v := (.bool false)) rfl) ?_
  refine WL_nil ?_
  refine thenE_normal ?_
  refine WC_seq ?_
  refine WC_seq ?_
  refine WC_region ?_
  refine WL_x (x_move (v := .slice _ _ _) rfl) ?_
  refine WL_x (x_len Try.underlying22 rfl) ?_
  refine WL_x (x_move (v := .slice _ _ _) rfl) ?_
  refine WL_x (x_len Try.underlying22 rfl) ?_
  refine WL_x (x_binop rfl rfl (r_neq _ _ _ _)) ?_
  refine WL_nil ?_
  refine thenE_normal ?_
  refine WC_ifd rfl (fun h10 => ?_) (fun h10 => ?_)
  · refine WC_seq ?_
    refine WC_region ?_
    refine WL_x (x_assign (v := (.bool false)) rfl) ?_
    refine WL_nil ?_
    refine thenE_normal ?_
    refine WC_ret ?_
    refine thenE_ret ?_
    refine ends1 (v := .bool _) Try.results9 rfl ?_
    first
      | exact ⟨by rw [decide_eq_false (by intro e; subst e; exact h10 rfl)], H.fr⟩
      | exact ⟨by rw [decide_eq_false (by intro e; subst e; exact h24 rfl)], H.fr⟩
      | exact ⟨by rw [decide_eq_true (by rw [← List.take_of_length_le (l := xs) (i := k) (by omega), htk, List.take_of_length_le (by omega)])], H.fr⟩
  · have hlen : xs.length = ys.length := by omega
    clear h10
    refine WC_skip ?_
    refine thenE_normal ?_
    refine WC_seq ?_
    refine WC_seq ?_
    refine WC_region ?_
    refine WL_x (x_move (v := .slice _ _ _) rfl) ?_
    refine WL_x (x_len Try.underlying22 rfl) ?_
    refine WL_x (x_move (v := (.int .i64 0)) rfl) ?_
    refine WL_nil ?_
    refine thenE_normal ?_
    refine WC_block ?_
    refine WC_while (fun (k : Nat) f w' => k ≤ xs.length ∧ xs.take k = ys.take k ∧ f 13 = .int .i64 k ∧ f 12 = .int .i64 xs.length ∧ f 0 = .slice A xs.length c ∧ f 1 = .slice B ys.length d ∧ St W [] [] [cells A (nums .u8 xs), cells B (nums .u8 ys)] w') (fun k => xs.length - k) (s0 := 0) ?_ ?_
    · exact ⟨Nat.zero_le _, by simp, rfl, rfl, rfl, rfl, H⟩
    · clear H
      rintro k f w ⟨hk, htk, h13, h12, h0, h1, H⟩
      rw [← upd_self h13, ← upd_self h12, ← upd_self h0, ← upd_self h1]
      refine WC_seq ?_
      refine WC_region ?_
      refine WL_x (x_binop rfl rfl (r_lss _ _ _ _)) ?_
      refine WL_nil ?_
      refine thenE_normal ?_
      refine WC_seq ?_
      refine WC_ifd rfl (fun h14 => ?_) (fun h14 => ?_)
      · refine WC_skip ?_
        refine thenE_normal ?_
        refine WC_seq ?_
        refine WC_block ?_
        refine WC_seq ?_
        refine WC_region ?_
        refine WL_x (x_move (v := .int .i64 _) rfl) ?_
        refine WL_x (x_assign (v := .int .i64 _) rfl) ?_
        refine WL_nil ?_
        refine thenE_normal ?_
        refine WC_seq ?_
        refine WC_drawH (m := 9) (listed := [false, false, false, false, false, false, false, false, false]) 9 (by kernel_rfl) rfl rfl H ?_
        intro w H
        refine WG_take (i := 0) (listed' := [true, false, false, false, false, false, false, false, false]) rfl (by kernel_rfl) (fun w H => x_move (v := .slice _ _ _) rfl) H rfl ?_
        refine WG_take (i := 1) (listed' := [true, true, false, false, false, false, false, false, false]) rfl (by kernel_rfl) (fun w H => x_move (v := .int .i64 _) rfl) H rfl ?_
        refine WG_take (i := 2) (listed' := [true, true, true, false, false, false, false, false, false]) rfl (by kernel_rfl) (fun w H => x_indexAddr (s := 1) Try.underlying22 (by kernel_rfl) rfl rfl (by omega) (by omega) (by first | rfl | assumption | exact H.rsomen .zero (by omega) | exact H.rsomen (.succ .zero) (by omega) | exact H.rsomen (.succ (.succ .zero)) (by omega) | exact H.osomen .zero (by omega) | exact H.osomen (.succ .zero) (by omega) | exact H.osomen (.succ (.succ .zero)) (by omega)) rfl) H rfl ?_
        first | refine WG_take (i := 3) (listed' := [true, true, true, true, false, false, false, false, false]) rfl (by kernel_rfl) (fun w H => x_load (v := .int .u8 _) Try.underlying5 rfl rfl (H.cellAt .zero rfl)) H rfl ?_ | refine WG_take (i := 3) (listed' := [true, true, true, true, false, false, false, false, false]) rfl (by kernel_rfl) (fun w H => x_load (v := .int .u8 _) Try.underlying5 rfl rfl (H.cellAt (.succ .zero) rfl)) H rfl ?_ | refine WG_take (i := 3) (listed' := [true, true, true, true, false, false, false, false, false]) rfl (by kernel_rfl) (fun w H => x_load (v := .int .u8 _) Try.underlying5 rfl rfl (H.cellAt (.succ (.succ .zero)) rfl)) H rfl ?_ | refine WG_take (i := 3) (listed' := [true, true, true, true, false, false, false, false, false]) rfl (by kernel_rfl) (fun w H => x_load (v := .int .u8 _) Try.underlying5 rfl rfl (H.cellAt (.succ (.succ (.succ .zero))) rfl)) H rfl ?_ | refine WG_take (i := 3) (listed' := [true, true, true, true, false, false, false, false, false]) rfl (by kernel_rfl) (fun w H => x_load (v := .int .u8 _) Try.underlying5 rfl rfl (H.cellAt (.succ (.succ (.succ (.succ .zero)))) rfl)) H rfl ?_ | refine WG_take (i := 3) (listed' := [true, true, true, true, false, false, false, false, false]) rfl (by kernel_rfl) (fun w H => x_load Try.underlying5 rfl rfl (H.rnum .zero (by omega) (by omega))) H rfl ?_ | refine WG_take (i := 3) (listed' := [true, true, true, true, false, false, false, false, false]) rfl (by kernel_rfl) (fun w H => x_load Try.underlying5 rfl rfl (H.rnum (.succ .zero) (by omega) (by omega))) H rfl ?_ | refine WG_take (i := 3) (listed' := [true, true, true, true, false, false, false, false, false]) rfl (by kernel_rfl) (fun w H => x_load Try.underlying5 rfl rfl (H.rnum (.succ (.succ .zero)) (by omega) (by omega))) H rfl ?_ | refine WG_take (i := 3) (listed' := [true, true, true, true, false, false, false, false, false]) rfl (by kernel_rfl) (fun w H => x_load Try.underlying5 rfl rfl (H.onum .zero (by omega) (by omega))) H rfl ?_ | refine WG_take (i := 3) (listed' := [true, true, true, true, false, false, false, false, false]) rfl (by kernel_rfl) (fun w H => x_load Try.underlying5 rfl rfl (H.onum (.succ .zero) (by omega) (by omega))) H rfl ?_ | refine WG_take (i := 3) (listed' := [true, true, true, true, false, false, false, false, false]) rfl (by kernel_rfl) (fun w H => x_load Try.underlying5 rfl rfl (H.onum (.succ (.succ .zero)) (by omega) (by omega))) H rfl ?_
        refine WG_take (i := 4) (listed' := [true, true, true, true, true, false, false, false, false]) rfl (by kernel_rfl) (fun w H => x_move (v := .slice _ _ _) rfl) H rfl ?_
        refine WG_take (i := 5) (listed' := [true, true, true, true, true, true, false, false, false]) rfl (by kernel_rfl) (fun w H => x_move (v := .int .i64 _) rfl) H rfl ?_
        refine WG_take (i := 6) (listed' := [true, true, true, true, true, true, true, false, false]) rfl (by kernel_rfl) (fun w H => x_indexAddr (s := 1) Try.underlying22 (by kernel_rfl) rfl rfl (by omega) (by omega) (by first | rfl | assumption | exact H.rsomen .zero (by omega) | exact H.rsomen (.succ .zero) (by omega) | exact H.rsomen (.succ (.succ .zero)) (by omega) | exact H.osomen .zero (by omega) | exact H.osomen (.succ .zero) (by omega) | exact H.osomen (.succ (.succ .zero)) (by omega)) rfl) H rfl ?_
        first | refine WG_take (i := 7) (listed' := [true, true, true, true, true, true, true, true, false]) rfl (by kernel_rfl) (fun w H => x_load (v := .int .u8 _) Try.underlying5 rfl rfl (H.cellAt .zero rfl)) H rfl ?_ | refine WG_take (i := 7) (listed' := [true, true, true, true, true, true, true, true, false]) rfl (by kernel_rfl) (fun w H => x_load (v := .int .u8 _) Try.underlying5 rfl rfl (H.cellAt (.succ .zero) rfl)) H rfl ?_ | refine WG_take (i := 7) (listed' := [true, true, true, true, true, true, true, true, false]) rfl (by kernel_rfl) (fun w H => x_load (v := .int .u8 _) Try.underlying5 rfl rfl (H.cellAt (.succ (.succ .zero)) rfl)) H rfl ?_ | refine WG_take (i := 7) (listed' := [true, true, true, true, true, true, true, true, false]) rfl (by kernel_rfl) (fun w H => x_load (v := .int .u8 _) Try.underlying5 rfl rfl (H.cellAt (.succ (.succ (.succ .zero))) rfl)) H rfl ?_ | refine WG_take (i := 7) (listed' := [true, true, true, true, true, true, true, true, false]) rfl (by kernel_rfl) (fun w H => x_load (v := .int .u8 _) Try.underlying5 rfl rfl (H.cellAt (.succ (.succ (.succ (.succ .zero)))) rfl)) H rfl ?_ | refine WG_take (i := 7) (listed' := [true, true, true, true, true, true, true, true, false]) rfl (by kernel_rfl) (fun w H => x_load Try.underlying5 rfl rfl (H.rnum .zero (by omega) (by omega))) H rfl ?_ | refine WG_take (i := 7) (listed' := [true, true, true, true, true, true, true, true, false]) rfl (by kernel_rfl) (fun w H => x_load Try.underlying5 rfl rfl (H.rnum (.succ .zero) (by omega) (by omega))) H rfl ?_ | refine WG_take (i := 7) (listed' := [true, true, true, true, true, true, true, true, false]) rfl (by kernel_rfl) (fun w H => x_load Try.underlying5 rfl rfl (H.rnum (.succ (.succ .zero)) (by omega) (by omega))) H rfl ?_ | refine WG_take (i := 7) (listed' := [true, true, true, true, true, true, true, true, false]) rfl (by kernel_rfl) (fun w H => x_load Try.underlying5 rfl rfl (H.onum .zero (by omega) (by omega))) H rfl ?_ | refine WG_take (i := 7) (listed' := [true, true, true, true, true, true, true, true, false]) rfl (by kernel_rfl) (fun w H => x_load Try.underlying5 rfl rfl (H.onum (.succ .zero) (by omega) (by omega))) H rfl ?_ | refine WG_take (i := 7) (listed' := [true, true, true, true, true, true, true, true, false]) rfl (by kernel_rfl) (fun w H => x_load Try.underlying5 rfl rfl (H.onum (.succ (.succ .zero)) (by omega) (by omega))) H rfl ?_
        refine WG_take (i := 8) (listed' := [true, true, true, true, true, true, true, true, true]) rfl (by kernel_rfl) (fun w H => x_binop rfl rfl (r_neq _ _ _ _)) H rfl ?_
        refine WG_done (by kernel_rfl) ?_
        refine thenE_normal ?_
        refine WC_ifd rfl (fun h24 => ?_) (fun h24 => ?_)
        · refine WC_seq ?_
          refine WC_region ?_
          refine WL_x (x_assign (v := (.bool false)) rfl) ?_
          refine WL_nil ?_
          refine thenE_normal ?_
          refine WC_ret ?_
          refine inBlockE_ret ?_
          refine thenE_ret ?_
          refine thenE_ret ?_
          refine inBlockE_ret ?_
          refine thenE_ret ?_
          refine ends1 (v := .bool _) Try.results9 rfl ?_
          first
            | exact ⟨by rw [decide_eq_false (by intro e; subst e; exact h10 rfl)], H.fr⟩
            | exact ⟨by rw [decide_eq_false (by intro e; subst e; exact h24 rfl)], H.fr⟩
            | exact ⟨by rw [decide_eq_true (by rw [← List.take_of_length_le (l := xs) (i := k) (by omega), htk, List.take_of_length_le (by omega)])], H.fr⟩
        · refine WC_skip ?_
          refine inBlockE_normal ?_
          refine thenE_normal ?_
          refine WC_region ?_
          refine WL_x (x_binop rfl rfl (r_add_in (i64_in (by omega) (by omega)))) ?_
          refine WL_x (x_move (v := .int .i64 _) rfl) ?_
          refine WL_nil ?_
          refine thenE_normal ?_
          refine ⟨k + 1, ⟨by omega, ?_, rfl, rfl, rfl, rfl, H⟩, by omega⟩
          rw [take_succ_nth xs k (by omega), take_succ_nth ys k (by omega), htk, Classical.not_not.1 h24]
      · refine WC_exit ?_
        refine thenE_exit ?_
        refine thenE_exit ?_
        refine inBlockE_exit ?_
        refine thenE_normal ?_
        refine WC_seq ?_
        refine WC_region ?_
        refine WL_x (x_assign (v := (.bool true)) rfl) ?_
        refine WL_nil ?_
        refine thenE_normal ?_
        refine WC_ret ?_
        refine ends1 (v := .bool _) Try.results9 rfl ?_
        first
          | exact ⟨by rw [decide_eq_false (by intro e; subst e; exact h10 rfl)], H.fr⟩
          | exact ⟨by rw [decide_eq_false (by intro e; subst e; exact h24 rfl)], H.fr⟩
          | exact ⟨by rw [decide_eq_true (by rw [← List.take_of_length_le (l := xs) (i := k) (by omega), htk, List.take_of_length_le (by omega)])], H.fr⟩

theorem clone_ok (W : World) (xs : List Int) (A : Option Addr) (c : Nat) (hx : Cells W A (nums .u8 xs)) (hl : xs.length * 1 ≤ 140737488355328) :
    Calls Try.prog 13 #[.slice A xs.length c] W fun e w' => ∃ A' c', e = .returned (.slice A' xs.length c') ∧ Fr [] W w' ∧ (row A' c' 5 1 xs.length (nums .u8 xs)).ok w' ∧ ∀ b, b ∈ (row A' c' 5 1 xs.length (nums .u8 xs)).fp → W.heap.size ≤ b := by
  have H : St W [] [] [cells A (nums .u8 xs)] W := St.start [] (by simp; exact cells_ok hx)
  cases A with
  | none =>
    obtain rfl : xs = [] := by
      cases xs with
      | nil => rfl
      | cons x xs => have := hx.some_ (by simp [nums]); simp at this
    refine calls_enter (N := 8) Try.func13 rfl Try.ntmps13 rfl ?_
    refine WC_seq ?_
    refine WC_region ?_
    refine WL_x (x_assign (v := (.slice none 0 0)) rfl) ?_
    refine WL_nil ?_
    refine thenE_normal ?_
    refine WC_seq ?_
    refine WC_seq ?_
    refine WC_region ?_
    refine WL_x (x_move (v := .slice _ _ _) rfl) ?_
    refine WL_x (x_slice_eql_nil Try.underlying22 rfl rfl) ?_
    refine WL_nil ?_
    refine thenE_normal ?_
    refine WC_yes rfl ?_
    refine WC_seq ?_
    refine WC_region ?_
    refine WL_x (x_assign (v := (.slice none 0 0)) rfl) ?_
    refine WL_nil ?_
    refine thenE_normal ?_
    refine WC_ret ?_
    refine thenE_ret ?_
    refine ends1 (v := .slice _ _ _) Try.results13 rfl ?_
    exact ⟨none, 0, rfl, H.fr, row_nil _ 5 1, by simp [row]⟩
  | some ad =>
    refine calls_enter (N := 8) Try.func13 rfl Try.ntmps13 rfl ?_
    refine WC_seq ?_
    refine WC_region ?_
    refine WL_x (x_assign (v := (.slice none 0 0)) rfl) ?_
    refine WL_nil ?_
    refine thenE_normal ?_
    refine WC_seq ?_
    refine WC_seq ?_
    refine WC_region ?_
    refine WL_x (x_move (v := .slice _ _ _) rfl) ?_
    refine WL_x (x_slice_eql_nil Try.underlying22 rfl rfl) ?_
    refine WL_nil ?_
    refine thenE_normal ?_
    refine WC_no rfl ?_
    refine WC_skip ?_
    refine thenE_normal ?_
    refine WC_seq ?_
    refine WC_region ?_
    refine WL_buildSliceS (s := 1) (z0 := [.int .u8 0]) (zero := []) (cells := []) (vs := []) Try.underlying22 (by kernel_rfl) (by kernel_rfl) rfl rfl rfl rfl H ?_
    intro b5 w H
    replace H := H.toRow 0 1 .zero rfl (by simp [maxLen])
    refine WL_x (x_move (v := .slice _ _ _) rfl) ?_
    refine WL_append (i := Try.t5) (bytes := 1) (size := 1) Try.underlying22 (by kernel_rfl) rfl rfl rfl (by kernel_rfl) rfl rfl rfl H (fun _ _ => .zero) (by simp [nums]) (H.rcells .zero) (nums_one _ _) (by simp only [maxLen]; omega) (by omega) ?_
    intro A7 c7 w H
    refine WL_x (x_assign (v := .slice _ _ _) rfl) ?_
    refine WL_nil ?_
    refine thenE_normal ?_
    refine WC_ret ?_
    refine ends1 (v := .slice _ _ _) Try.results13 rfl ?_
    simp only [Nat.zero_add] at *
    exact ⟨A7, c7, rfl, H.fr, H.ok _ (by simp), fun b hb => (H.own _ (by simp) b hb).resolve_left (by simp)⟩

def times (how : Int) : List Int := if how = 1 then [] else if how = 2 then [0, 0] else if how = 3 then [1] else if how = 5 then [2] else [0]

theorem times_ok (W : World) (how at_ mask : Int) :
    Calls Try.prog 12 #[.agg #[.int .u8 how, .int .u16 at_, .int .u32 mask]] W fun e w' => ∃ A c xs, e = .returned (.slice A xs.length c) ∧ Fr [] W w' ∧ xs = times how ∧ (row A c 3 1 xs.length (nums .i64 xs)).ok w' ∧ ∀ b, b ∈ (row A c 3 1 xs.length (nums .i64 xs)).fp → W.heap.size ≤ b := by
  have H : St W [] [] [] W := St.start [] (by simp)
  refine calls_enter (N := 17) Try.func12 rfl Try.ntmps12 rfl ?_
  refine WC_seq ?_
  refine WC_region ?_
  refine WL_box (v := .agg (List.toArray _)) rfl rfl H ?_
  intro b1 w H
  refine WL_x (x_assign (v := (.slice none 0 0)) rfl) ?_
  refine WL_nil ?_
  refine thenE_normal ?_
  refine WC_seq ?_
  refine WC_seq ?_
  refine WC_region ?_
  refine WL_x (x_fieldAddr (n := 0) (o' := 0) Try.underlying34 rfl (by kernel_rfl) rfl rfl) ?_
  first | refine WL_x (x_load (v := .int .u8 _) Try.underlying5 rfl rfl (H.cellAt .zero rfl)) ?_ | refine WL_x (x_load (v := .int .u8 _) Try.underlying5 rfl rfl (H.cellAt (.succ .zero) rfl)) ?_ | refine WL_x (x_load (v := .int .u8 _) Try.underlying5 rfl rfl (H.cellAt (.succ (.succ .zero)) rfl)) ?_ | refine WL_x (x_load (v := .int .u8 _) Try.underlying5 rfl rfl (H.cellAt (.succ (.succ (.succ .zero))) rfl)) ?_ | refine WL_x (x_load (v := .int .u8 _) Try.underlying5 rfl rfl (H.cellAt (.succ (.succ (.succ (.succ .zero)))) rfl)) ?_ | refine WL_x (x_load Try.underlying5 rfl rfl (H.rnum .zero (by omega) (by omega))) ?_ | refine WL_x (x_load Try.underlying5 rfl rfl (H.rnum (.succ .zero) (by omega) (by omega))) ?_ | refine WL_x (x_load Try.underlying5 rfl rfl (H.rnum (.succ (.succ .zero)) (by omega) (by omega))) ?_ | refine WL_x (x_load Try.underlying5 rfl rfl (H.onum .zero (by omega) (by omega))) ?_ | refine WL_x (x_load Try.underlying5 rfl rfl (H.onum (.succ .zero) (by omega) (by omega))) ?_ | refine WL_x (x_load Try.underlying5 rfl rfl (H.onum (.succ (.succ .zero)) (by omega) (by omega))) ?_
  refine WL_nil ?_
  refine thenE_normal ?_
  refine WC_block ?_
  refine WC_seq ?_
  refine WC_region ?_
  refine WL_x (x_binop rfl rfl (r_eql _ _ _ _)) ?_
  refine WL_x (x_assign (v := .bool _) rfl) ?_
  refine WL_nil ?_
  refine thenE_normal ?_
  first | refine WC_ifd rfl (fun h5 => ?_) (fun h5 => ?_) | refine WC_ifn rfl (fun h5 => ?_) (fun h5 => ?_) | refine WC_if rfl (fun h5 => ?_) (fun h5 => ?_)
  · refine WC_seq ?_
    refine WC_region ?_
    refine WL_x (x_assign (v := (.slice none 0 0)) rfl) ?_
    refine WL_nil ?_
    refine thenE_normal ?_
    refine WC_ret ?_
    refine inBlockE_ret ?_
    refine thenE_ret ?_
    refine ends1 (v := .slice _ _ _) Try.results12 rfl ?_
    unfold times
    first
      | exact ⟨none, 0, [], rfl, H.fr, by simp [*], row_nil w 3 1, by simp [row]⟩
      | exact ⟨_, _, [0, 0], rfl, H.fr, by simp [*], blk_row 1 2 (H.get (Has.mem .zero)) rfl (by simp [maxLen]), fun b hb => (H.own _ (Has.mem .zero) b hb).resolve_left (by simp)⟩
      | exact ⟨_, _, [1], rfl, H.fr, by simp [*], blk_row 1 1 (H.get (Has.mem .zero)) rfl (by simp [maxLen]), fun b hb => (H.own _ (Has.mem .zero) b hb).resolve_left (by simp)⟩
      | exact ⟨_, _, [2], rfl, H.fr, by simp [*], blk_row 1 1 (H.get (Has.mem .zero)) rfl (by simp [maxLen]), fun b hb => (H.own _ (Has.mem .zero) b hb).resolve_left (by simp)⟩
      | exact ⟨_, _, [0], rfl, H.fr, by simp [*], blk_row 1 1 (H.get (Has.mem .zero)) rfl (by simp [maxLen]), fun b hb => (H.own _ (Has.mem .zero) b hb).resolve_left (by simp)⟩
  · refine WC_seq ?_
    refine WC_region ?_
    refine WL_x (x_binop rfl rfl (r_eql _ _ _ _)) ?_
    refine WL_x (x_assign (v := .bool _) rfl) ?_
    refine WL_nil ?_
    refine thenE_normal ?_
    first | refine WC_ifd rfl (fun h7 => ?_) (fun h7 => ?_) | refine WC_ifn rfl (fun h7 => ?_) (fun h7 => ?_) | refine WC_if rfl (fun h7 => ?_) (fun h7 => ?_)
    · refine WC_seq ?_
      refine WC_region ?_
      refine WL_buildSliceS (s := 1) (z0 := [(.int .i64 0)]) (zero := [(.int .i64 0), (.int .i64 0)]) (cells := [_, _]) (vs := [(0, (.int .i64 0)), (1, (.int .i64 0))]) Try.underlying42 (by kernel_rfl) (by kernel_rfl) rfl rfl rfl rfl H ?_
      intro b9 w H
      refine WL_x (x_assign (v := .slice _ _ _) rfl) ?_
      refine WL_nil ?_
      refine thenE_normal ?_
      refine WC_ret ?_
      refine inBlockE_ret ?_
      refine thenE_ret ?_
      refine ends1 (v := .slice _ _ _) Try.results12 rfl ?_
      unfold times
      first
        | exact ⟨none, 0, [], rfl, H.fr, by simp [*], row_nil w 3 1, by simp [row]⟩
        | exact ⟨_, _, [0, 0], rfl, H.fr, by simp [*], blk_row 1 2 (H.get (Has.mem .zero)) rfl (by simp [maxLen]), fun b hb => (H.own _ (Has.mem .zero) b hb).resolve_left (by simp)⟩
        | exact ⟨_, _, [1], rfl, H.fr, by simp [*], blk_row 1 1 (H.get (Has.mem .zero)) rfl (by simp [maxLen]), fun b hb => (H.own _ (Has.mem .zero) b hb).resolve_left (by simp)⟩
        | exact ⟨_, _, [2], rfl, H.fr, by simp [*], blk_row 1 1 (H.get (Has.mem .zero)) rfl (by simp [maxLen]), fun b hb => (H.own _ (Has.mem .zero) b hb).resolve_left (by simp)⟩
        | exact ⟨_, _, [0], rfl, H.fr, by simp [*], blk_row 1 1 (H.get (Has.mem .zero)) rfl (by simp [maxLen]), fun b hb => (H.own _ (Has.mem .zero) b hb).resolve_left (by simp)⟩
    · refine WC_seq ?_
      refine WC_region ?_
      refine WL_x (x_binop rfl rfl (r_eql _ _ _ _)) ?_
      refine WL_x (x_assign (v := .bool _) rfl) ?_
      refine WL_nil ?_
      refine thenE_normal ?_
      first | refine WC_ifd rfl (fun h10 => ?_) (fun h10 => ?_) | refine WC_ifn rfl (fun h10 => ?_) (fun h10 => ?_) | refine WC_if rfl (fun h10 => ?_) (fun h10 => ?_)
      · refine WC_seq ?_
        refine WC_region ?_
        refine WL_buildSliceS (s := 1) (z0 := [(.int .i64 0)]) (zero := [(.int .i64 0)]) (cells := [_]) (vs := [(0, (.int .i64 1))]) Try.underlying42 (by kernel_rfl) (by kernel_rfl) rfl rfl rfl rfl H ?_
        intro b12 w H
        refine WL_x (x_assign (v := .slice _ _ _) rfl) ?_
        refine WL_nil ?_
        refine thenE_normal ?_
        refine WC_ret ?_
        refine inBlockE_ret ?_
        refine thenE_ret ?_
        refine ends1 (v := .slice _ _ _) Try.results12 rfl ?_
        unfold times
        first
          | exact ⟨none, 0, [], rfl, H.fr, by simp [*], row_nil w 3 1, by simp [row]⟩
          | exact ⟨_, _, [0, 0], rfl, H.fr, by simp [*], blk_row 1 2 (H.get (Has.mem .zero)) rfl (by simp [maxLen]), fun b hb => (H.own _ (Has.mem .zero) b hb).resolve_left (by simp)⟩
          | exact ⟨_, _, [1], rfl, H.fr, by simp [*], blk_row 1 1 (H.get (Has.mem .zero)) rfl (by simp [maxLen]), fun b hb => (H.own _ (Has.mem .zero) b hb).resolve_left (by simp)⟩
          | exact ⟨_, _, [2], rfl, H.fr, by simp [*], blk_row 1 1 (H.get (Has.mem .zero)) rfl (by simp [maxLen]), fun b hb => (H.own _ (Has.mem .zero) b hb).resolve_left (by simp)⟩
          | exact ⟨_, _, [0], rfl, H.fr, by simp [*], blk_row 1 1 (H.get (Has.mem .zero)) rfl (by simp [maxLen]), fun b hb => (H.own _ (Has.mem .zero) b hb).resolve_left (by simp)⟩
      · refine WC_seq ?_
        refine WC_region ?_
        refine WL_x (x_binop rfl rfl (r_eql _ _ _ _)) ?_
        refine WL_x (x_assign (v := .bool _) rfl) ?_
        refine WL_nil ?_
        refine thenE_normal ?_
        first | refine WC_ifd rfl (fun h13 => ?_) (fun h13 => ?_) | refine WC_ifn rfl (fun h13 => ?_) (fun h13 => ?_) | refine WC_if rfl (fun h13 => ?_) (fun h13 => ?_)
        · refine WC_seq ?_
          refine WC_region ?_
          refine WL_buildSliceS (s := 1) (z0 := [(.int .i64 0)]) (zero := [(.int .i64 0)]) (cells := [_]) (vs := [(0, (.int .i64 2))]) Try.underlying42 (by kernel_rfl) (by kernel_rfl) rfl rfl rfl rfl H ?_
          intro b15 w H
          refine WL_x (x_assign (v := .slice _ _ _) rfl) ?_
          refine WL_nil ?_
          refine thenE_normal ?_
          refine WC_ret ?_
          refine inBlockE_ret ?_
          refine thenE_ret ?_
          refine ends1 (v := .slice _ _ _) Try.results12 rfl ?_
          unfold times
          first
            | exact ⟨none, 0, [], rfl, H.fr, by simp [*], row_nil w 3 1, by simp [row]⟩
            | exact ⟨_, _, [0, 0], rfl, H.fr, by simp [*], blk_row 1 2 (H.get (Has.mem .zero)) rfl (by simp [maxLen]), fun b hb => (H.own _ (Has.mem .zero) b hb).resolve_left (by simp)⟩
            | exact ⟨_, _, [1], rfl, H.fr, by simp [*], blk_row 1 1 (H.get (Has.mem .zero)) rfl (by simp [maxLen]), fun b hb => (H.own _ (Has.mem .zero) b hb).resolve_left (by simp)⟩
            | exact ⟨_, _, [2], rfl, H.fr, by simp [*], blk_row 1 1 (H.get (Has.mem .zero)) rfl (by simp [maxLen]), fun b hb => (H.own _ (Has.mem .zero) b hb).resolve_left (by simp)⟩
            | exact ⟨_, _, [0], rfl, H.fr, by simp [*], blk_row 1 1 (H.get (Has.mem .zero)) rfl (by simp [maxLen]), fun b hb => (H.own _ (Has.mem .zero) b hb).resolve_left (by simp)⟩
        · refine WC_skip ?_
          refine inBlockE_normal ?_
          refine thenE_normal ?_
          refine WC_seq ?_
          refine WC_region ?_
          refine WL_buildSliceS (s := 1) (z0 := [(.int .i64 0)]) (zero := [(.int .i64 0)]) (cells := [_]) (vs := [(0, (.int .i64 0))]) Try.underlying42 (by kernel_rfl) (by kernel_rfl) rfl rfl rfl rfl H ?_
          intro b16 w H
          refine WL_x (x_assign (v := .slice _ _ _) rfl) ?_
          refine WL_nil ?_
          refine thenE_normal ?_
          refine WC_ret ?_
          refine ends1 (v := .slice _ _ _) Try.results12 rfl ?_
          unfold times
          first
            | exact ⟨none, 0, [], rfl, H.fr, by simp [*], row_nil w 3 1, by simp [row]⟩
            | exact ⟨_, _, [0, 0], rfl, H.fr, by simp [*], blk_row 1 2 (H.get (Has.mem .zero)) rfl (by simp [maxLen]), fun b hb => (H.own _ (Has.mem .zero) b hb).resolve_left (by simp)⟩
            | exact ⟨_, _, [1], rfl, H.fr, by simp [*], blk_row 1 1 (H.get (Has.mem .zero)) rfl (by simp [maxLen]), fun b hb => (H.own _ (Has.mem .zero) b hb).resolve_left (by simp)⟩
            | exact ⟨_, _, [2], rfl, H.fr, by simp [*], blk_row 1 1 (H.get (Has.mem .zero)) rfl (by simp [maxLen]), fun b hb => (H.own _ (Has.mem .zero) b hb).resolve_left (by simp)⟩
            | exact ⟨_, _, [0], rfl, H.fr, by simp [*], blk_row 1 1 (H.get (Has.mem .zero)) rfl (by simp [maxLen]), fun b hb => (H.own _ (Has.mem .zero) b hb).resolve_left (by simp)⟩

theorem late_ok (W : World) (p : Value) (left : Int) (hp : p.oneCell' = true) :
    Calls Try.prog 15 #[.agg #[p, .int .i64 left]] W fun e w' => e = .returned (.bool (decide (left < 0))) ∧ Fr [] W w' := by
  have H : St W [] [] [] W := St.start [] (by simp)
  refine calls_enter (N := 6) Try.func15 rfl Try.ntmps15 rfl ?_
  refine WC_seq ?_
  refine WC_region ?_
  refine WL_box (v := .agg (List.toArray _)) rfl rfl H ?_
  intro b1 w H
  refine WL_x (x_assign (v := (.bool false)) rfl) ?_
  refine WL_nil ?_
  refine thenE_normal ?_
  refine WC_seq ?_
  refine WC_region ?_
  refine WL_x (x_fieldAddr (n := 0) (o' := 1) Try.underlying46 rfl (by kernel_rfl) rfl rfl) ?_
  first | refine WL_x (x_load (v := .int .i64 _) Try.underlying3 rfl rfl (H.cellAt .zero rfl)) ?_ | refine WL_x (x_load (v := .int .i64 _) Try.underlying3 rfl rfl (H.cellAt (.succ .zero) rfl)) ?_ | refine WL_x (x_load (v := .int .i64 _) Try.underlying3 rfl rfl (H.cellAt (.succ (.succ .zero)) rfl)) ?_ | refine WL_x (x_load (v := .int .i64 _) Try.underlying3 rfl rfl (H.cellAt (.succ (.succ (.succ .zero))) rfl)) ?_ | refine WL_x (x_load (v := .int .i64 _) Try.underlying3 rfl rfl (H.cellAt (.succ (.succ (.succ (.succ .zero)))) rfl)) ?_ | refine WL_x (x_load Try.underlying3 rfl rfl (H.rnum .zero (by omega) (by omega))) ?_ | refine WL_x (x_load Try.underlying3 rfl rfl (H.rnum (.succ .zero) (by omega) (by omega))) ?_ | refine WL_x (x_load Try.underlying3 rfl rfl (H.rnum (.succ (.succ .zero)) (by omega) (by omega))) ?_ | refine WL_x (x_load Try.underlying3 rfl rfl (H.onum .zero (by omega) (by omega))) ?_ | refine WL_x (x_load Try.underlying3 rfl rfl (H.onum (.succ .zero) (by omega) (by omega))) ?_ | refine WL_x (x_load Try.underlying3 rfl rfl (H.onum (.succ (.succ .zero)) (by omega) (by omega))) ?_
  refine WL_x (x_binop rfl rfl (r_lss _ _ _ _)) ?_
  refine WL_x (x_assign (v := .bool _) rfl) ?_
  refine WL_nil ?_
  refine thenE_normal ?_
  refine WC_ret ?_
  refine ends1 (v := .bool _) Try.results15 rfl ?_
  exact ⟨rfl, H.fr⟩

structure WE where
  A : Option Addr
  c : Nat
  xs : List Int
  left : Int
def WE.enc (e : WE) : List Value := [.slice e.A e.xs.length e.c, .int .i64 e.left]
theorem WE.enc_len (e : WE) : e.enc.length = 2 := rfl
def WE.gone (e : WE) : Bool := decide (e.left < 0)
def WE.ck (e : WE) : Ck := row e.A e.c 5 1 e.xs.length (nums .u8 e.xs)
instance : Inhabited WE := ⟨⟨none, 0, [], 0⟩⟩

theorem index_ok (W : World) (es : List WE) (A : Option Addr) (c : Nat) (hx : Cells W A (encs WE.enc es)) (hl : es.length ≤ maxLen) :
    Calls Try.prog 16 #[.slice A es.length c, .func (.func 15) #[] #[]] W fun e w' => ∃ r : Int, e = .returned (.int .i64 r) ∧ Fr [] W w' ∧ ((r = -1 ∧ es.all (fun x => !x.gone) = true) ∨ ∃ k : Nat, r = k ∧ k < es.length ∧ (es.take k).all (fun x => !x.gone) = true ∧ ∀ h : k < es.length, es[k].gone = true) := by
  unfold maxLen at hl
  have H : St W [] [] [cells A (encs WE.enc es)] W := St.start [] (by simp; exact cells_ok hx)
  refine calls_enter (N := 19) Try.func16 rfl Try.ntmps16 rfl ?_
  refine WC_seq ?_
  refine WC_region ?_
  refine WL_x (x_assign (v := (.int .i64 0)) rfl) ?_
  refine WL_nil ?_
  refine thenE_normal ?_
  refine WC_seq ?_
  refine WC_seq ?_
  refine WC_region ?_
  refine WL_x (x_move (v := .slice _ _ _) rfl) ?_
  refine WL_x (x_len Try.underlying26 rfl) ?_
  refine WL_x (x_move (v := (.int .i64 0)) rfl) ?_
  refine WL_nil ?_
  refine thenE_normal ?_
  refine WC_block ?_
  refine WC_while (fun (k : Nat) f w' => k ≤ es.length ∧ (es.take k).all (fun x => !x.gone) = true ∧ f 8 = .int .i64 k ∧ f 7 = .int .i64 es.length ∧ f 0 = .slice A es.length c ∧ f 1 = .func (.func 15) #[] #[] ∧ St W [] [] [cells A (encs WE.enc es)] w') (fun k => es.length - k) (s0 := 0) ?_ ?_
  · exact ⟨Nat.zero_le _, by simp, rfl, rfl, rfl, rfl, H⟩
  · clear H
    rintro k f w ⟨hk, htk, h8, h7, h0, h1, H⟩
    rw [← upd_self h8, ← upd_self h7, ← upd_self h0, ← upd_self h1]
    refine WC_seq ?_
    refine WC_region ?_
    refine WL_x (x_binop rfl rfl (r_lss _ _ _ _)) ?_
    refine WL_nil ?_
    refine thenE_normal ?_
    refine WC_seq ?_
    refine WC_ifd rfl (fun h9 => ?_) (fun h9 => ?_)
    · have hk9 : k < es.length := by omega
      refine WC_skip ?_
      refine thenE_normal ?_
      refine WC_seq ?_
      refine WC_block ?_
      refine WC_seq ?_
      refine WC_region ?_
      refine WL_x (x_move (v := .int .i64 _) rfl) ?_
      refine WL_x (x_assign (v := .int .i64 _) rfl) ?_
      refine WL_nil ?_
      refine thenE_normal ?_
      refine WC_seq ?_
      refine WC_region ?_
      refine WL_x (x_move (v := _) rfl) ?_
      refine WL_x (x_move (v := .slice _ _ _) rfl) ?_
      refine WL_x (x_move (v := .int .i64 _) rfl) ?_
      refine WL_x (x_indexAddr (s := 2) Try.underlying26 (by kernel_rfl) rfl rfl (by omega) (by omega) (H.rsome (l := encs WE.enc es) .zero (by rw [encs_length WE.enc WE.enc_len]; omega)) rfl) ?_
      refine WL_x (x_loadA (n := 2) (vs := (es[k]).enc) Try.underlying46 rfl (by kernel_rfl) rfl rfl (H.rrange (k := 2) .zero (by rw [Int.toNat_natCast]; exact encs_get WE.enc WE.enc_len es k (by omega)))) ?_
      refine WL_callv (vs := [.agg (List.toArray _)]) rfl  Try.func15 rfl rfl rfl (late_ok _ _ _ rfl) ?_
      rintro _ w ⟨rfl, hf⟩
      refine ⟨_, rfl, ?_⟩
      replace H := H.quiet hf
      refine WL_nil ?_
      refine thenE_normal ?_
      refine WC_ifd rfl (fun h16 => ?_) (fun h16 => ?_)
      · refine WC_seq ?_
        refine WC_region ?_
        refine WL_x (x_move (v := .int .i64 _) rfl) ?_
        refine WL_x (x_assign (v := .int .i64 _) rfl) ?_
        refine WL_nil ?_
        refine thenE_normal ?_
        refine WC_ret ?_
        refine inBlockE_ret ?_
        refine thenE_ret ?_
        refine thenE_ret ?_
        refine inBlockE_ret ?_
        refine thenE_ret ?_
        refine ends1 (v := .int .i64 _) Try.results16 rfl ?_
        first
          | exact ⟨_, rfl, H.fr, .inr ⟨k, rfl, hk9, htk, fun _ => by simp [WE.gone, h16]⟩⟩
          | exact ⟨_, rfl, H.fr, .inl ⟨rfl, by rw [← htk, List.take_of_length_le (by omega)]⟩⟩
      · refine WC_skip ?_
        refine inBlockE_normal ?_
        refine thenE_normal ?_
        refine WC_region ?_
        refine WL_x (x_binop rfl rfl (r_add_in (i64_in (by omega) (by omega)))) ?_
        refine WL_x (x_move (v := .int .i64 _) rfl) ?_
        refine WL_nil ?_
        refine thenE_normal ?_
        refine ⟨k + 1, ⟨by omega, ?_, rfl, rfl, rfl, rfl, H⟩, by omega⟩
        rw [List.take_succ_eq_append_getElem (by omega), List.all_append, htk]
        simp [WE.gone, h16]
    · refine WC_exit ?_
      refine thenE_exit ?_
      refine thenE_exit ?_
      refine inBlockE_exit ?_
      refine thenE_normal ?_
      refine WC_seq ?_
      refine WC_region ?_
      refine WL_x (x_assign (v := (.int .i64 (-1))) rfl) ?_
      refine WL_nil ?_
      refine thenE_normal ?_
      refine WC_ret ?_
      refine ends1 (v := .int .i64 _) Try.results16 rfl ?_
      first
        | exact ⟨_, rfl, H.fr, .inr ⟨k, rfl, hk9, htk, fun _ => by simp [WE.gone, h16]⟩⟩
        | exact ⟨_, rfl, H.fr, .inl ⟨rfl, by rw [← htk, List.take_of_length_le (by omega)]⟩⟩

def keepW (es : List WE) : List WE := es.filter fun x => !x.gone
theorem keep_snoc (es : List WE) (j : Nat) (h : j < es.length) : keepW (es.take (j + 1)) = keepW (es.take j) ++ (if es[j].gone then [] else [es[j]]) := by
  rw [List.take_succ_eq_append_getElem h]
  unfold keepW
  rw [List.filter_append]
  cases hg : es[j].gone <;> simp [hg]
theorem keep_all (es : List WE) (h : es.all (fun x => !x.gone) = true) : keepW es = es := List.filter_eq_self.2 (by simpa using h)
theorem del_step (es L : List WE) (i j : Nat) (hi : i ≤ j) (hj : j < es.length) (hL : L.length = es.length) (h1 : L.take i = keepW (es.take j)) (h2 : L.drop j = es.drop j) :
    ∃ h : j < L.length, L[j] = es[j] ∧ L.drop (j + 1) = es.drop (j + 1) := by
  refine ⟨by omega, ?_, ?_⟩
  · have : L[j]? = es[j]? := by
      have e := congrArg (·[0]?) h2
      simpa using e
    rw [List.getElem?_eq_getElem (by omega), List.getElem?_eq_getElem hj] at this
    exact Option.some.inj this
  · have := congrArg (·.drop 1) h2
    simpa [List.drop_drop, Nat.add_comm] using this
theorem del_put (es L : List WE) (i j : Nat) (hi : i < j) (hj : j < es.length) (hL : L.length = es.length) (h1 : L.take i = keepW (es.take j)) (hd : L.drop (j + 1) = es.drop (j + 1)) (hg : es[j].gone = false) :
    (L.set i es[j]).take (i + 1) = keepW (es.take (j + 1)) ∧ (L.set i es[j]).drop (j + 1) = es.drop (j + 1) := by
  constructor
  · rw [keep_snoc es j hj, hg, ← h1, List.take_succ_eq_append_getElem (by simp; omega), List.take_set_of_le (by omega)]
    simp
  · rw [List.drop_set_of_lt (by omega), hd]

theorem delete_ok (W : World) (es : List WE) (A : Option Addr) (c : Nat) (hx : (row A c 46 2 es.length (encs WE.enc es)).ok W) :
    Calls Try.prog 14 #[.slice A es.length c, .func (.func 15) #[] #[]] W fun e w' => e = .returned (.slice A (keepW es).length c) ∧ Fr (row A c 46 2 es.length (encs WE.enc es)).fp W w' ∧ (row A c 46 2 (keepW es).length (encs WE.enc (keepW es))).ok w' := by
  have hlen0 := (owns_len hx.r)
  unfold maxLen at hlen0
  have H : St W (row A c 46 2 es.length (encs WE.enc es)).fp [row A c 46 2 es.length (encs WE.enc es)] [] W := St.one hx
  refine calls_enter (N := 42) Try.func14 rfl Try.ntmps14 rfl ?_
  refine WC_seq ?_
  refine WC_region ?_
  refine WL_x (x_assign (v := (.slice none 0 0)) rfl) ?_
  refine WL_nil ?_
  refine thenE_normal ?_
  refine WC_seq ?_
  refine WC_region ?_
  refine WL_x (x_move (v := .slice _ _ _) rfl) ?_
  refine WL_x (x_move (v := _) rfl) ?_
  refine WL_call (vs := [.slice _ _ _, _]) Try.func16 rfl rfl rfl (index_ok _ es A c (owns_cells hx.r) (by unfold maxLen; omega)) ?_
  rintro _ w ⟨r, rfl, hf, hcase⟩
  replace H := H.quiet hf
  refine ⟨_, rfl, ?_⟩
  refine WL_x (x_assign (v := .int .i64 _) rfl) ?_
  refine WL_nil ?_
  refine thenE_normal ?_
  refine WC_seq ?_
  refine WC_seq ?_
  refine WC_region ?_
  refine WL_x (x_move (v := .int .i64 _) rfl) ?_
  refine WL_x (x_binop rfl rfl (r_eql _ _ _ _)) ?_
  refine WL_nil ?_
  refine thenE_normal ?_
  refine WC_ifd rfl (fun h12 => ?_) (fun h12 => ?_)
  · have hall : es.all (fun x => !x.gone) = true := by
      rcases hcase with ⟨_, h⟩ | ⟨k, hk, _⟩
      · exact h
      · omega
    refine WC_seq ?_
    refine WC_region ?_
    refine WL_x (x_move (v := .slice _ _ _) rfl) ?_
    refine WL_x (x_assign (v := .slice _ _ _) rfl) ?_
    refine WL_nil ?_
    refine thenE_normal ?_
    refine WC_ret ?_
    refine thenE_ret ?_
    refine ends1 (v := .slice _ _ _) Try.results14 rfl ?_
    first
      | exact ⟨by rw [keep_all es hall], H.fr, by rw [keep_all es hall]; exact H.ok _ (Has.mem .zero)⟩
      | (replace H := H.cutRow (m := (keepW es).length) (xs' := encs WE.enc (keepW es)) .zero (by omega) (by rw [← encs_length WE.enc WE.enc_len, List.take_left])
         exact ⟨by rw [hlen]; simp, H.fr, H.ok _ (Has.mem .zero)⟩)
  · obtain ⟨k0, rfl, hk0, hall, hgone⟩ := hcase.resolve_left (fun h => h12 h.1)
    refine WC_skip ?_
    refine thenE_normal ?_
    refine WC_seq ?_
    refine WC_seq ?_
    refine WC_region ?_
    refine WL_x (x_move (v := .int .i64 _) rfl) ?_
    refine WL_x (x_binop rfl rfl (r_add_in (i64_in (by omega) (by omega)))) ?_
    refine WL_x (x_assign (v := .int .i64 _) rfl) ?_
    refine WL_nil ?_
    refine thenE_normal ?_
    refine WC_block ?_
    refine WC_while (fun (s : Nat × Nat × List WE) f w' => s.1 < s.2.1 ∧ s.2.1 ≤ es.length ∧ s.2.2.length = es.length ∧ s.2.2.take s.1 = keepW (es.take s.2.1) ∧ s.2.2.drop s.2.1 = es.drop s.2.1 ∧ f 5 = .int .i64 s.1 ∧ f 6 = .int .i64 s.2.1 ∧ f 0 = .slice A es.length c ∧ f 1 = .func (.func 15) #[] #[] ∧ St W (row A c 46 2 es.length (encs WE.enc es)).fp [row A c 46 2 es.length (encs WE.enc s.2.2)] [] w') (fun s => es.length - s.2.1) (s0 := (k0, k0 + 1, es)) ?_ ?_
    · refine ⟨by simp, by simp; omega, rfl, ?_, rfl, rfl, by simp [upd], rfl, rfl, H⟩
      rw [keep_snoc es k0 hk0, hgone hk0, keep_all _ hall]; simp
    · clear H
      rintro ⟨i, j, L⟩ f w ⟨hij, hj, hL, htk, hdr, h5, h6, h0, h1, H⟩
      simp only at hij hj hL htk hdr h5 h6 H
      rw [← upd_self h5, ← upd_self h6, ← upd_self h0, ← upd_self h1]
      refine WC_seq ?_
      refine WC_seq ?_
      refine WC_region ?_
      refine WL_x (x_move (v := .int .i64 _) rfl) ?_
      refine WL_x (x_move (v := .slice _ _ _) rfl) ?_
      refine WL_x (x_len Try.underlying26 rfl) ?_
      refine WL_x (x_binop rfl rfl (r_lss _ _ _ _)) ?_
      refine WL_nil ?_
      refine thenE_normal ?_
      refine WC_ifd rfl (fun h19 => ?_) (fun h19 => ?_)
      · have hj19 : j < es.length := by omega
        obtain ⟨hjL, hLj, hdj⟩ := del_step es L i j (by omega) hj19 hL htk hdr
        refine WC_skip ?_
        refine thenE_normal ?_
        refine WC_seq ?_
        refine WC_block ?_
        refine WC_seq ?_
        refine WC_region ?_
        refine WL_x (x_move (v := .slice _ _ _) rfl) ?_
        refine WL_x (x_move (v := .int .i64 _) rfl) ?_
        refine WL_x (x_indexAddr (s := 2) Try.underlying26 (by kernel_rfl) rfl rfl (by omega) (by omega) (H.osome (l := encs WE.enc L) .zero (by rw [encs_length WE.enc WE.enc_len]; omega)) rfl) ?_
        refine WL_x (x_loadA (n := 2) (vs := (L[j]).enc) Try.underlying46 rfl (by kernel_rfl) rfl rfl (H.orange (k := 2) .zero (by rw [Int.toNat_natCast]; exact encs_get WE.enc WE.enc_len L j hjL))) ?_
        refine WL_alloc (l := [(.slice none 0 0), (.int .i64 0)]) (by kernel_rfl) H ?_
        intro b7 w H
        first | refine WL_storeA rfl rfl rfl (by kernel_rfl) H .zero (Nat.le_of_ble_eq_true rfl) (splice_all _ _ rfl) ?_ | refine WL_storeA rfl rfl rfl (by kernel_rfl) H (.succ .zero) (Nat.le_of_ble_eq_true rfl) (splice_all _ _ rfl) ?_ | refine WL_storeA rfl rfl rfl (by kernel_rfl) H (.succ (.succ .zero)) (Nat.le_of_ble_eq_true rfl) (splice_all _ _ rfl) ?_ | refine WL_storeA rfl rfl rfl (by kernel_rfl) H (.succ (.succ (.succ .zero))) (Nat.le_of_ble_eq_true rfl) (splice_all _ _ rfl) ?_ | refine WL_storeA rfl rfl rfl (by kernel_rfl) H (.succ (.succ (.succ (.succ .zero)))) (Nat.le_of_ble_eq_true rfl) (splice_all _ _ rfl) ?_
        intro w H
        refine WL_nil ?_
        refine thenE_normal ?_
        refine WC_seq ?_
        refine WC_region ?_
        refine WL_x (x_move (v := _) rfl) ?_
        first | refine WL_x (x_loadA (n := 2) Try.underlying46 rfl (by kernel_rfl) rfl rfl (H.rangeAll .zero rfl rfl)) ?_ | refine WL_x (x_loadA (n := 2) Try.underlying46 rfl (by kernel_rfl) rfl rfl (H.rangeAll (.succ .zero) rfl rfl)) ?_ | refine WL_x (x_loadA (n := 2) Try.underlying46 rfl (by kernel_rfl) rfl rfl (H.rangeAll (.succ (.succ .zero)) rfl rfl)) ?_ | refine WL_x (x_loadA (n := 2) Try.underlying46 rfl (by kernel_rfl) rfl rfl (H.rangeAll (.succ (.succ (.succ .zero))) rfl rfl)) ?_ | refine WL_x (x_loadA (n := 2) Try.underlying46 rfl (by kernel_rfl) rfl rfl (H.rangeAll (.succ (.succ (.succ (.succ .zero)))) rfl rfl)) ?_
        refine WL_callv (vs := [.agg (List.toArray _)]) rfl  Try.func15 rfl rfl rfl (late_ok _ _ _ rfl) ?_
        rintro _ w ⟨rfl, hf⟩
        refine ⟨_, rfl, ?_⟩
        replace H := H.quiet hf
        refine WL_x (x_not rfl) ?_
        refine WL_nil ?_
        refine thenE_normal ?_
        refine WC_ifn rfl (fun h29 => ?_) (fun h29 => ?_)
        · have hg29 : es[j].gone = false := by rw [← hLj]; simpa [WE.gone] using h29
          have hput := del_put es L i j hij hj19 hL htk hdj hg29
          refine WC_seq ?_
          refine WC_region ?_
          refine WL_x (x_move (v := .slice _ _ _) rfl) ?_
          refine WL_x (x_move (v := .int .i64 _) rfl) ?_
          first | refine WL_x (x_loadA (n := 2) Try.underlying46 rfl (by kernel_rfl) rfl rfl (H.rangeAll .zero rfl rfl)) ?_ | refine WL_x (x_loadA (n := 2) Try.underlying46 rfl (by kernel_rfl) rfl rfl (H.rangeAll (.succ .zero) rfl rfl)) ?_ | refine WL_x (x_loadA (n := 2) Try.underlying46 rfl (by kernel_rfl) rfl rfl (H.rangeAll (.succ (.succ .zero)) rfl rfl)) ?_ | refine WL_x (x_loadA (n := 2) Try.underlying46 rfl (by kernel_rfl) rfl rfl (H.rangeAll (.succ (.succ (.succ .zero))) rfl rfl)) ?_ | refine WL_x (x_loadA (n := 2) Try.underlying46 rfl (by kernel_rfl) rfl rfl (H.rangeAll (.succ (.succ (.succ (.succ .zero)))) rfl rfl)) ?_
          refine WL_x (x_indexAddr (s := 2) Try.underlying26 (by kernel_rfl) rfl rfl (by omega) (by omega) (H.osome (l := encs WE.enc L) (.succ .zero) (by rw [encs_length WE.enc WE.enc_len]; omega)) rfl) ?_
          refine WL_storeRA (n := es.length) (xs := encs WE.enc L) (xs' := encs WE.enc (L.set i L[j])) rfl rfl rfl (by simp [WE.enc]) (by kernel_rfl) rfl H (.succ .zero) (by rw [encs_length WE.enc WE.enc_len]; simp [WE.enc]; omega) (by rw [Int.toNat_natCast]; exact encs_splice WE.enc WE.enc_len L i _ (by omega)) ?_
          intro w H
          rw [hLj] at H
          refine WL_nil ?_
          refine thenE_normal ?_
          refine WC_region ?_
          refine WL_x (x_move (v := .int .i64 _) rfl) ?_
          refine WL_x (x_binop rfl rfl (r_add_in (i64_in (by omega) (by omega)))) ?_
          refine WL_x (x_assign (v := .int .i64 _) rfl) ?_
          refine WL_nil ?_
          refine inBlockE_normal ?_
          refine thenE_normal ?_
          refine WC_region ?_
          refine WL_x (x_move (v := .int .i64 _) rfl) ?_
          refine WL_x (x_binop rfl rfl (r_add_in (i64_in (by omega) (by omega)))) ?_
          refine WL_x (x_assign (v := .int .i64 _) rfl) ?_
          refine WL_nil ?_
          refine thenE_normal ?_
          first
            | (refine ⟨(i + 1, j + 1, L.set i es[j]), ⟨by simp; omega, by simp; omega, by simpa using hL, hput.1, hput.2, rfl, by simp [upd], rfl, rfl, H.drop (by simp) (by simp)⟩, by simp; omega⟩)
            | (refine ⟨(i, j + 1, L), ⟨by simp; omega, by simp; omega, hL, hskip, hdj, rfl, by simp [upd], rfl, rfl, H.drop (by simp) (by simp)⟩, by simp; omega⟩)
        · have hg29 : es[j].gone = true := by rw [← hLj]; simpa [WE.gone] using h29
          have hskip : L.take i = keepW (es.take (j + 1)) := by rw [keep_snoc es j hj19, hg29, htk]; simp
          refine WC_skip ?_
          refine inBlockE_normal ?_
          refine thenE_normal ?_
          refine WC_region ?_
          refine WL_x (x_move (v := .int .i64 _) rfl) ?_
          refine WL_x (x_binop rfl rfl (r_add_in (i64_in (by omega) (by omega)))) ?_
          refine WL_x (x_assign (v := .int .i64 _) rfl) ?_
          refine WL_nil ?_
          refine thenE_normal ?_
          first
            | (refine ⟨(i + 1, j + 1, L.set i es[j]), ⟨by simp; omega, by simp; omega, by simpa using hL, hput.1, hput.2, rfl, by simp [upd], rfl, rfl, H.drop (by simp) (by simp)⟩, by simp; omega⟩)
            | (refine ⟨(i, j + 1, L), ⟨by simp; omega, by simp; omega, hL, hskip, hdj, rfl, by simp [upd], rfl, rfl, H.drop (by simp) (by simp)⟩, by simp; omega⟩)
      · refine WC_exit ?_
        refine thenE_exit ?_
        refine thenE_exit ?_
        refine inBlockE_exit ?_
        refine thenE_normal ?_
        refine WC_seq ?_
        refine WC_region ?_
        refine WL_x (x_move (v := .slice _ _ _) rfl) ?_
        refine WL_x (x_move (v := .int .i64 _) rfl) ?_
        refine WL_x (x_slice_l (s := 2) Try.underlying26 (by kernel_rfl) rfl rfl (by omega) (by omega)) ?_
        refine WL_clear_end (i := Try.t46) (size := 2) (n := es.length) (zs := [.slice none 0 0, .int .i64 0]) (k := i) (xs' := encs WE.enc (keepW es) ++ (List.replicate (es.length - i) [Value.slice none 0 0, Value.int .i64 0]).flatten) Try.underlying26 (by kernel_rfl) rfl rfl rfl rfl (by rw [Int.toNat_natCast]; rfl) (by omega) (by omega) H .zero ?_ ?_
        · rw [encs_take WE.enc WE.enc_len, htk, List.take_of_length_le (by omega)]
        intro w H
        have hlen : (keepW es).length = i := by rw [← List.take_of_length_le (l := es) (i := j) (by omega), ← htk, List.length_take]; omega
        refine WL_nil ?_
        refine thenE_normal ?_
        refine WC_seq ?_
        refine WC_region ?_
        refine WL_x (x_move (v := .slice _ _ _) rfl) ?_
        refine WL_x (x_move (v := .int .i64 _) rfl) ?_
        refine WL_x (x_slice_h (s := 2) Try.underlying26 (by kernel_rfl) rfl rfl (by omega) (by omega)) ?_
        refine WL_x (x_assign (v := .slice _ _ _) rfl) ?_
        refine WL_nil ?_
        refine thenE_normal ?_
        refine WC_ret ?_
        refine ends1 (v := .slice _ _ _) Try.results14 rfl ?_
        first
          | exact ⟨by rw [keep_all es hall], H.fr, by rw [keep_all es hall]; exact H.ok _ (Has.mem .zero)⟩
          | (replace H := H.cutRow (m := (keepW es).length) (xs' := encs WE.enc (keepW es)) .zero (by omega) (by rw [← encs_length WE.enc WE.enc_len, List.take_left])
             exact ⟨by rw [hlen]; simp, H.fr, H.ok _ (Has.mem .zero)⟩)

theorem cut_ok (W : World) (xs : List Int) (A : Option Addr) (c : Nat) (m : Int) (hx : Cells W A (nums .u8 xs)) (hl : xs.length ≤ 140737488355328) :
    Calls Try.prog 5 #[.slice A xs.length c, .int .i64 m] W fun e w' => ∃ A' c', e = .returned (.slice A' (xs.take m.toNat).length c') ∧ Fr [] W w' ∧ (row A' c' 5 1 (xs.take m.toNat).length (nums .u8 (xs.take m.toNat))).ok w' ∧ ∀ b, b ∈ (row A' c' 5 1 (xs.take m.toNat).length (nums .u8 (xs.take m.toNat))).fp → W.heap.size ≤ b := by
  have H : St W [] [] [cells A (nums .u8 xs)] W := St.start [] (by simp; exact cells_ok hx)
  refine calls_enter (N := 24) Try.func5 rfl Try.ntmps5 rfl ?_
  refine WC_seq ?_
  refine WC_region ?_
  refine WL_x (x_assign (v := (.slice none 0 0)) rfl) ?_
  refine WL_nil ?_
  refine thenE_normal ?_
  refine WC_seq ?_
  refine WC_region ?_
  refine WL_x (x_assign (v := (.slice none 0 0)) rfl) ?_
  refine WL_nil ?_
  refine thenE_normal ?_
  refine WC_seq ?_
  refine WC_seq ?_
  refine WC_region ?_
  refine WL_x (x_move (v := .slice _ _ _) rfl) ?_
  refine WL_x (x_len Try.underlying22 rfl) ?_
  refine WL_x (x_move (v := (.int .i64 0)) rfl) ?_
  refine WL_nil ?_
  refine thenE_normal ?_
  refine WC_block ?_
  refine WC_while (fun (k : Nat) f w' => k ≤ xs.length ∧ f 10 = .int .i64 k ∧ f 9 = .int .i64 xs.length ∧ f 8 = .slice A xs.length c ∧ f 1 = .int .i64 m ∧ ∃ A' c', f 5 = .slice A' (xs.take (min k m.toNat)).length c' ∧ St W [] [row A' c' 5 1 (xs.take (min k m.toNat)).length (nums .u8 (xs.take (min k m.toNat)))] [cells A (nums .u8 xs)] w') (fun k => xs.length - k) (s0 := 0) ?_ ?_
  · replace H := H.nilRow 5 1
    have e0 : xs.take (min 0 m.toNat) = [] := by simp
    exact ⟨Nat.zero_le _, rfl, rfl, rfl, rfl, none, 0, by rw [e0]; rfl, by rw [e0]; exact H⟩
  · clear H
    rintro k f w ⟨hk, h10, h9, h8, h1, A', c', h5, H⟩
    rw [← upd_self h10, ← upd_self h9, ← upd_self h8, ← upd_self h1, ← upd_self h5]
    refine WC_seq ?_
    refine WC_region ?_
    refine WL_x (x_binop rfl rfl (r_lss _ _ _ _)) ?_
    refine WL_nil ?_
    refine thenE_normal ?_
    refine WC_seq ?_
    refine WC_ifd rfl (fun h11 => ?_) (fun h11 => ?_)
    · refine WC_skip ?_
      refine thenE_normal ?_
      refine WC_seq ?_
      refine WC_block ?_
      refine WC_seq ?_
      refine WC_region ?_
      refine WL_x (x_move (v := .int .i64 _) rfl) ?_
      refine WL_x (x_indexAddr (s := 1) Try.underlying22 (by kernel_rfl) rfl rfl (by omega) (by omega) (by first | rfl | assumption | exact H.rsomen .zero (by omega) | exact H.rsomen (.succ .zero) (by omega) | exact H.rsomen (.succ (.succ .zero)) (by omega) | exact H.osomen .zero (by omega) | exact H.osomen (.succ .zero) (by omega) | exact H.osomen (.succ (.succ .zero)) (by omega)) rfl) ?_
      first | refine WL_x (x_load (v := .int .u8 _) Try.underlying5 rfl rfl (H.cellAt .zero rfl)) ?_ | refine WL_x (x_load (v := .int .u8 _) Try.underlying5 rfl rfl (H.cellAt (.succ .zero) rfl)) ?_ | refine WL_x (x_load (v := .int .u8 _) Try.underlying5 rfl rfl (H.cellAt (.succ (.succ .zero)) rfl)) ?_ | refine WL_x (x_load (v := .int .u8 _) Try.underlying5 rfl rfl (H.cellAt (.succ (.succ (.succ .zero))) rfl)) ?_ | refine WL_x (x_load (v := .int .u8 _) Try.underlying5 rfl rfl (H.cellAt (.succ (.succ (.succ (.succ .zero)))) rfl)) ?_ | refine WL_x (x_load Try.underlying5 rfl rfl (H.rnum .zero (by omega) (by omega))) ?_ | refine WL_x (x_load Try.underlying5 rfl rfl (H.rnum (.succ .zero) (by omega) (by omega))) ?_ | refine WL_x (x_load Try.underlying5 rfl rfl (H.rnum (.succ (.succ .zero)) (by omega) (by omega))) ?_ | refine WL_x (x_load Try.underlying5 rfl rfl (H.onum .zero (by omega) (by omega))) ?_ | refine WL_x (x_load Try.underlying5 rfl rfl (H.onum (.succ .zero) (by omega) (by omega))) ?_ | refine WL_x (x_load Try.underlying5 rfl rfl (H.onum (.succ (.succ .zero)) (by omega) (by omega))) ?_
      refine WL_x (x_assign (v := .int .i64 _) rfl) ?_
      refine WL_x (x_assign (v := .int .u8 _) rfl) ?_
      refine WL_nil ?_
      refine thenE_normal ?_
      refine WC_seq ?_
      refine WC_region ?_
      refine WL_x (x_move (v := .int .i64 _) rfl) ?_
      refine WL_x (x_move (v := .int .i64 _) rfl) ?_
      refine WL_x (x_binop rfl rfl (r_lss _ _ _ _)) ?_
      refine WL_nil ?_
      refine thenE_normal ?_
      refine WC_ifd rfl (fun h17 => ?_) (fun h17 => ?_)
      · have etk : xs.take (min (k + 1) m.toNat) = xs.take (min k m.toNat) ++ [nth xs k] := by
          rw [show min (k + 1) m.toNat = k + 1 by omega, show min k m.toNat = k by omega, take_succ_nth xs k (by omega)]
        refine WC_region ?_
        refine WL_x (x_move (v := .slice _ _ _) rfl) ?_
        refine WL_x (x_move (v := .int .u8 _) rfl) ?_
        refine WL_buildSliceS (s := 1) (z0 := [(.int .u8 0)]) (zero := [(.int .u8 0)]) (cells := [_]) (vs := [(0, .int .u8 _)]) Try.underlying22 (by kernel_rfl) (by kernel_rfl) rfl rfl rfl rfl H ?_
        intro b20 w H
        refine WL_append (i := Try.t5) (bytes := 1) (size := 1) Try.underlying22 (by kernel_rfl) rfl rfl rfl (by kernel_rfl) rfl rfl rfl H (fun _ _ => .succ .zero) (rfl) (H.bcells .zero) (by simp [Value.oneCell']) (by simp only [maxLen, List.length_take]; omega) (by have := List.length_take_le (min k m.toNat) xs; simp only [List.length_take]; omega) ?_
        intro A21 c21 w H
        refine WL_x (x_assign (v := .slice _ _ _) rfl) ?_
        refine WL_nil ?_
        refine inBlockE_normal ?_
        refine thenE_normal ?_
        refine WC_region ?_
        refine WL_x (x_binop rfl rfl (r_add_in (i64_in (by omega) (by omega)))) ?_
        refine WL_x (x_move (v := .int .i64 _) rfl) ?_
        refine WL_nil ?_
        refine thenE_normal ?_
        first
          | (refine ⟨k + 1, ⟨by omega, rfl, rfl, rfl, rfl, A21, c21, ?_, ?_⟩, by omega⟩
             · rw [etk, List.length_append]; rfl
             · rw [etk, nums_append, List.length_append]; exact H.pop)
          | (refine ⟨k + 1, ⟨by omega, rfl, rfl, rfl, rfl, A', c', ?_, ?_⟩, by omega⟩
             · rw [etn]; rfl
             · rw [etn]; exact H)
      · have etn : min (k + 1) m.toNat = min k m.toNat := by omega
        refine WC_skip ?_
        refine inBlockE_normal ?_
        refine thenE_normal ?_
        refine WC_region ?_
        refine WL_x (x_binop rfl rfl (r_add_in (i64_in (by omega) (by omega)))) ?_
        refine WL_x (x_move (v := .int .i64 _) rfl) ?_
        refine WL_nil ?_
        refine thenE_normal ?_
        first
          | (refine ⟨k + 1, ⟨by omega, rfl, rfl, rfl, rfl, A21, c21, ?_, ?_⟩, by omega⟩
             · rw [etk, List.length_append]; rfl
             · rw [etk, nums_append, List.length_append]; exact H.pop)
          | (refine ⟨k + 1, ⟨by omega, rfl, rfl, rfl, rfl, A', c', ?_, ?_⟩, by omega⟩
             · rw [etn]; rfl
             · rw [etn]; exact H)
    · refine WC_exit ?_
      refine thenE_exit ?_
      refine thenE_exit ?_
      refine inBlockE_exit ?_
      refine thenE_normal ?_
      refine WC_seq ?_
      refine WC_region ?_
      refine WL_x (x_move (v := .slice _ _ _) rfl) ?_
      refine WL_x (x_assign (v := .slice _ _ _) rfl) ?_
      refine WL_nil ?_
      refine thenE_normal ?_
      refine WC_ret ?_
      refine ends1 (v := .slice _ _ _) Try.results5 rfl ?_
      obtain rfl : k = xs.length := by omega
      have e : xs.take (min xs.length m.toNat) = xs.take m.toNat := by
        rw [Nat.min_comm, ← List.take_take, List.take_length]
      have e2 : min xs.length m.toNat = (xs.take m.toNat).length := by rw [List.length_take]; omega
      rw [e] at H
      exact ⟨A', c', by rw [e], H.fr, H.ok _ (Has.mem .zero), fun b hb => (H.own _ (Has.mem .zero) b hb).resolve_left (by simp)⟩

structure BS where
  A : Option Addr
  c : Nat
  xs : List Int
def BS.enc (b : BS) : List Value := [.slice b.A b.xs.length b.c]
theorem BS.enc_len (b : BS) : b.enc.length = 1 := rfl
def BS.ck (b : BS) : Ck := cells b.A (nums .u8 b.xs)
def joinB (F : List BS) : List Int := F.flatMap (·.xs)
theorem joinB_succ (F : List BS) (k : Nat) (h : k < F.length) : joinB (F.take (k + 1)) = joinB (F.take k) ++ F[k].xs := by
  unfold joinB
  rw [List.take_succ_eq_append_getElem h, List.flatMap_append]
  simp
theorem joinB_le (F : List BS) (k : Nat) : (joinB (F.take k)).length ≤ (joinB F).length := by
  have e : joinB F = joinB (F.take k) ++ joinB (F.drop k) := by
    unfold joinB
    rw [← List.flatMap_append, List.take_append_drop]
  rw [e, List.length_append]; omega

theorem join_ok (W : World) (F : List BS) (A : Option Addr) (c : Nat) (hx : Cells W A (encs BS.enc F)) (hF : ∀ b, b ∈ F → Cells W b.A (nums .u8 b.xs)) (hl : (joinB F).length ≤ 140737488355328) (hl2 : F.length ≤ maxLen) :
    Calls Try.prog 6 #[.slice A F.length c] W fun e w' => ∃ A' c', e = .returned (.slice A' (joinB F).length c') ∧ Fr [] W w' ∧ (row A' c' 5 1 (joinB F).length (nums .u8 (joinB F))).ok w' ∧ ∀ b, b ∈ (row A' c' 5 1 (joinB F).length (nums .u8 (joinB F))).fp → W.heap.size ≤ b := by
  unfold maxLen at hl2
  have H : St W [] [] (cells A (encs BS.enc F) :: F.map BS.ck) W := St.start [] (by
    intro d hd
    simp only [List.mem_cons, List.mem_map] at hd
    rcases hd with rfl | ⟨b, hb, rfl⟩
    · exact cells_ok hx
    · exact cells_ok (hF b hb))
  refine calls_enter (N := 17) Try.func6 rfl Try.ntmps6 rfl ?_
  refine WC_seq ?_
  refine WC_region ?_
  refine WL_x (x_assign (v := (.slice none 0 0)) rfl) ?_
  refine WL_nil ?_
  refine thenE_normal ?_
  refine WC_seq ?_
  refine WC_region ?_
  refine WL_x (x_assign (v := (.slice none 0 0)) rfl) ?_
  refine WL_nil ?_
  refine thenE_normal ?_
  refine WC_seq ?_
  refine WC_seq ?_
  refine WC_region ?_
  refine WL_x (x_move (v := .slice _ _ _) rfl) ?_
  refine WL_x (x_len Try.underlying30 rfl) ?_
  refine WL_x (x_move (v := (.int .i64 0)) rfl) ?_
  refine WL_nil ?_
  refine thenE_normal ?_
  refine WC_block ?_
  refine WC_while (fun (k : Nat) f w' => k ≤ F.length ∧ f 8 = .int .i64 k ∧ f 7 = .int .i64 F.length ∧ f 6 = .slice A F.length c ∧ ∃ A' c', f 3 = .slice A' (joinB (F.take k)).length c' ∧ St W [] [row A' c' 5 1 (joinB (F.take k)).length (nums .u8 (joinB (F.take k)))] (cells A (encs BS.enc F) :: F.map BS.ck) w') (fun k => F.length - k) (s0 := 0) ?_ ?_
  · replace H := H.nilRow 5 1
    exact ⟨Nat.zero_le _, rfl, rfl, rfl, none, 0, rfl, H⟩
  · clear H
    rintro k f w ⟨hk, h8, h7, h6, A', c', h3, H⟩
    rw [← upd_self h8, ← upd_self h7, ← upd_self h6, ← upd_self h3]
    refine WC_seq ?_
    refine WC_region ?_
    refine WL_x (x_binop rfl rfl (r_lss _ _ _ _)) ?_
    refine WL_nil ?_
    refine thenE_normal ?_
    refine WC_seq ?_
    refine WC_ifd rfl (fun h9 => ?_) (fun h9 => ?_)
    · have hk9 : k < F.length := by omega
      refine WC_skip ?_
      refine thenE_normal ?_
      refine WC_seq ?_
      refine WC_block ?_
      refine WC_seq ?_
      refine WC_region ?_
      refine WL_x (x_indexAddr (s := 1) Try.underlying30 (by kernel_rfl) rfl rfl (by omega) (by omega) (H.rsome (l := encs BS.enc F) .zero (by rw [encs_length BS.enc BS.enc_len]; omega)) rfl) ?_
      refine WL_x (x_load (v := .slice F[k].A F[k].xs.length F[k].c) Try.underlying22 rfl rfl (H.rcell (l := encs BS.enc F) .zero (by rw [Int.toNat_natCast]; exact encs_at BS.enc BS.enc_len F k 0 hk9 (by omega)))) ?_
      refine WL_x (x_assign (v := .slice _ _ _) rfl) ?_
      refine WL_nil ?_
      refine thenE_normal ?_
      refine WC_region ?_
      refine WL_x (x_move (v := .slice _ _ _) rfl) ?_
      refine WL_x (x_move (v := .slice _ _ _) rfl) ?_
      refine WL_append (i := Try.t5) (bytes := 1) (size := 1) Try.underlying22 (by kernel_rfl) rfl rfl rfl (by kernel_rfl) rfl rfl rfl H (fun _ _ => .zero) (by simp [nums]) (H.rget (c := BS.ck F[k]) (List.mem_cons_of_mem _ (List.mem_map.2 ⟨F[k], List.getElem_mem _, rfl⟩))) (nums_one _ _) (by have := joinB_le F (k + 1); rw [joinB_succ F k hk9, List.length_append] at this; simp only [maxLen]; omega) (by have := joinB_le F (k + 1); rw [joinB_succ F k hk9, List.length_append] at this; omega) ?_
      intro A14 c14 w H
      refine WL_x (x_assign (v := .slice _ _ _) rfl) ?_
      refine WL_nil ?_
      refine inBlockE_normal ?_
      refine thenE_normal ?_
      refine WC_region ?_
      refine WL_x (x_binop rfl rfl (r_add_in (i64_in (by omega) (by omega)))) ?_
      refine WL_x (x_move (v := .int .i64 _) rfl) ?_
      refine WL_nil ?_
      refine thenE_normal ?_
      refine ⟨k + 1, ⟨by omega, rfl, rfl, rfl, A14, c14, ?_, ?_⟩, by omega⟩
      · rw [joinB_succ F k hk9, List.length_append]; rfl
      · rw [joinB_succ F k hk9, nums_append, List.length_append]; exact H
    · refine WC_exit ?_
      refine thenE_exit ?_
      refine thenE_exit ?_
      refine inBlockE_exit ?_
      refine thenE_normal ?_
      refine WC_seq ?_
      refine WC_region ?_
      refine WL_x (x_move (v := .slice _ _ _) rfl) ?_
      refine WL_x (x_assign (v := .slice _ _ _) rfl) ?_
      refine WL_nil ?_
      refine thenE_normal ?_
      refine WC_ret ?_
      refine ends1 (v := .slice _ _ _) Try.results6 rfl ?_
      obtain rfl : k = F.length := by omega
      rw [List.take_length] at H
      exact ⟨A', c', by rw [List.take_length], H.fr, H.ok _ (Has.mem .zero), fun b hb => (H.own _ (Has.mem .zero) b hb).resolve_left (by simp)⟩

def WE.dec (e : WE) : WE := { e with left := e.left - 1 }
def WE.hdr (e : WE) : List Value := [.slice e.A e.xs.length e.c]
theorem WE.hdr_len (e : WE) : e.hdr.length = 1 := rfl
def outW (es : List WE) : List WE := es.filter fun x => decide (x.left = 0)
def decTo (k : Nat) (es : List WE) : List WE := (es.take k).map WE.dec ++ es.drop k
def wireCk (r : Nat) (A : Option Addr) (c : Nat) (es : List WE) : Ck := both (blk r [.slice A es.length c] 28) (row A c 46 2 es.length (encs WE.enc es))
theorem decTo_length (k : Nat) (es : List WE) : (decTo k es).length = es.length := by simp [decTo]; omega
theorem decTo_get (k : Nat) (es : List WE) (h : k < es.length) (h2 : k < (decTo k es).length) : (decTo k es)[k] = es[k] := by
  have e : (decTo k es)[k]? = es[k]? := by
    unfold decTo
    rw [List.getElem?_append_right (by simp; omega), List.getElem?_drop]
    simp [show min k es.length = k by omega]
  rw [List.getElem?_eq_getElem h2, List.getElem?_eq_getElem h] at e
  exact Option.some.inj e
theorem decTo_set (k : Nat) (es : List WE) (h : k < es.length) : (decTo k es).set k (es[k]).dec = decTo (k + 1) es := by
  unfold decTo
  rw [List.set_append_right _ _ (by simp; omega), List.take_succ_eq_append_getElem h, List.map_append]
  simp only [List.length_map, List.length_take, show min k es.length = k by omega, Nat.sub_self]
  rw [List.drop_eq_getElem_cons h, List.set_cons_zero]
  simp
theorem decTo_all (es : List WE) : decTo es.length es = es.map WE.dec := by simp [decTo]
theorem outW_succ (es : List WE) (k : Nat) (h : k < es.length) : outW (es.take (k + 1)) = outW (es.take k) ++ (if es[k].left = 0 then [es[k]] else []) := by
  unfold outW
  rw [List.take_succ_eq_append_getElem h, List.filter_append]
  by_cases hg : es[k].left = 0 <;> simp [hg]
theorem outW_le (es : List WE) (k : Nat) : (outW (es.take k)).length ≤ es.length := by
  have h1 : (outW (es.take k)).length ≤ (es.take k).length := List.length_filter_le _ _
  have h2 := List.length_take_le k es
  simp only [List.length_take] at h1
  omega

theorem take_ok (W : World) (r : Nat) (A : Option Addr) (c : Nat) (es : List WE) (hw : (wireCk r A c es).ok W) (hl : es.length * 24 ≤ 140737488355328) (hr : ∀ e, e ∈ es → -9223372036854775808 < e.left ∧ e.left ≤ 9223372036854775807) :
    Calls Try.prog 8 #[.pointer (some ⟨r, 0, none⟩)] W fun e w' => ∃ B d, e = .returned (.slice B (outW es).length d) ∧ Fr (wireCk r A c es).fp W w' ∧ (wireCk r A c (keepW (es.map WE.dec))).ok w' ∧ (row B d 22 1 (outW es).length (encs WE.hdr (outW es))).ok w' ∧ (∀ b, b ∈ (row B d 22 1 (outW es).length (encs WE.hdr (outW es))).fp → W.heap.size ≤ b) := by
  have H : St W (wireCk r A c es).fp [wireCk r A c es] [] W := St.one hw
  replace H := H.splitB
  refine calls_enter (N := 56) Try.func8 rfl Try.ntmps8 rfl ?_
  refine WC_seq ?_
  refine WC_region ?_
  refine WL_x (x_assign (v := (.slice none 0 0)) rfl) ?_
  refine WL_nil ?_
  refine thenE_normal ?_
  refine WC_seq ?_
  refine WC_region ?_
  refine WL_x (x_assign (v := (.slice none 0 0)) rfl) ?_
  refine WL_nil ?_
  refine thenE_normal ?_
  refine WC_seq ?_
  refine WC_seq ?_
  refine WC_region ?_
  refine WL_x (x_move (v := .pointer _) rfl) ?_
  refine WL_x (x_ptr_eql_nil Try.underlying38 rfl rfl) ?_
  refine WL_nil ?_
  refine thenE_normal ?_
  refine WC_no rfl ?_
  refine WC_skip ?_
  refine thenE_normal ?_
  refine WC_seq ?_
  refine WC_seq ?_
  refine WC_region ?_
  refine WL_x (x_move (v := .pointer _) rfl) ?_
  refine WL_x (x_nilCheck rfl) ?_
  refine WL_x (x_fieldAddr (n := 0) (o' := 0) Try.underlying28 rfl (by kernel_rfl) rfl rfl) ?_
  first | refine WL_x (x_load (v := .slice _ _ _) Try.underlying26 rfl rfl (H.cellAt .zero rfl)) ?_ | refine WL_x (x_load (v := .slice _ _ _) Try.underlying26 rfl rfl (H.cellAt (.succ .zero) rfl)) ?_ | refine WL_x (x_load (v := .slice _ _ _) Try.underlying26 rfl rfl (H.cellAt (.succ (.succ .zero)) rfl)) ?_ | refine WL_x (x_load (v := .slice _ _ _) Try.underlying26 rfl rfl (H.cellAt (.succ (.succ (.succ .zero))) rfl)) ?_ | refine WL_x (x_load (v := .slice _ _ _) Try.underlying26 rfl rfl (H.cellAt (.succ (.succ (.succ (.succ .zero)))) rfl)) ?_
  refine WL_x (x_len Try.underlying26 rfl) ?_
  refine WL_x (x_move (v := (.int .i64 0)) rfl) ?_
  refine WL_nil ?_
  refine thenE_normal ?_
  refine WC_block ?_
  refine WC_while (fun (k : Nat) f w' => k ≤ es.length ∧ f 12 = .int .i64 k ∧ f 11 = .int .i64 es.length ∧ f 0 = .pointer (some ⟨r, 0, none⟩) ∧ ∃ B d, f 3 = .slice B (outW (es.take k)).length d ∧ St W (wireCk r A c es).fp [row B d 22 1 (outW (es.take k)).length (encs WE.hdr (outW (es.take k))), blk r [.slice A es.length c] 28, row A c 46 2 es.length (encs WE.enc (decTo k es))] [] w') (fun k => es.length - k) (s0 := 0) ?_ ?_
  · replace H := H.nilRow 22 1
    exact ⟨Nat.zero_le _, rfl, rfl, rfl, none, 0, rfl, H⟩
  · clear H
    rintro k f w ⟨hk, h12, h11, h0, B, d, h3, H⟩
    rw [← upd_self h12, ← upd_self h11, ← upd_self h0, ← upd_self h3]
    refine WC_seq ?_
    refine WC_region ?_
    refine WL_x (x_binop rfl rfl (r_lss _ _ _ _)) ?_
    refine WL_nil ?_
    refine thenE_normal ?_
    refine WC_seq ?_
    refine WC_ifd rfl (fun h13 => ?_) (fun h13 => ?_)
    · have hk13 : k < es.length := by omega
      have hkL : k < (decTo k es).length := by rw [decTo_length]; exact hk13
      have hkg := decTo_get k es hk13 hkL
      have eo := outW_succ es k hk13
      have hrk := hr es[k] (List.getElem_mem _)
      have hol := outW_le es (k + 1)
      refine WC_skip ?_
      refine thenE_normal ?_
      refine WC_seq ?_
      refine WC_block ?_
      refine WC_seq ?_
      refine WC_region ?_
      refine WL_x (x_move (v := .int .i64 _) rfl) ?_
      refine WL_x (x_assign (v := .int .i64 _) rfl) ?_
      refine WL_nil ?_
      refine thenE_normal ?_
      refine WC_seq ?_
      refine WC_seq ?_
      refine WC_region ?_
      refine WL_x (x_move (v := .pointer _) rfl) ?_
      refine WL_x (x_nilCheck rfl) ?_
      refine WL_x (x_fieldAddr (n := 0) (o' := 0) Try.underlying28 rfl (by kernel_rfl) rfl rfl) ?_
      first | refine WL_x (x_load (v := .slice _ _ _) Try.underlying26 rfl rfl (H.cellAt .zero rfl)) ?_ | refine WL_x (x_load (v := .slice _ _ _) Try.underlying26 rfl rfl (H.cellAt (.succ .zero) rfl)) ?_ | refine WL_x (x_load (v := .slice _ _ _) Try.underlying26 rfl rfl (H.cellAt (.succ (.succ .zero)) rfl)) ?_ | refine WL_x (x_load (v := .slice _ _ _) Try.underlying26 rfl rfl (H.cellAt (.succ (.succ (.succ .zero))) rfl)) ?_ | refine WL_x (x_load (v := .slice _ _ _) Try.underlying26 rfl rfl (H.cellAt (.succ (.succ (.succ (.succ .zero)))) rfl)) ?_
      refine WL_x (x_move (v := .int .i64 _) rfl) ?_
      refine WL_x (x_indexAddr (s := 2) Try.underlying26 (by kernel_rfl) rfl rfl (by omega) (by omega) (H.osome (l := encs WE.enc (decTo k es)) (.succ (.succ .zero)) (by rw [encs_length WE.enc WE.enc_len, decTo_length]; omega)) rfl) ?_
      refine WL_x (x_fieldAddr (n := 0) (o' := _ + 1) Try.underlying46 rfl (by kernel_rfl) rfl rfl) ?_
      refine WL_x (x_load (v := .int .i64 es[k].left) Try.underlying3 rfl rfl (by rw [Nat.add_assoc, Int.toNat_natCast]; exact H.ocell (.succ (.succ .zero)) (by rw [encs_at WE.enc WE.enc_len (decTo k es) k 1 hkL (by omega), hkg]; rfl))) ?_
      refine WL_x (x_binop rfl rfl (r_eql _ _ _ _)) ?_
      refine WL_nil ?_
      refine thenE_normal ?_
      refine WC_ifd rfl (fun h23 => ?_) (fun h23 => ?_)
      · rw [if_pos h23] at eo
        refine WC_region ?_
        refine WL_x (x_move (v := .slice _ _ _) rfl) ?_
        refine WL_x (x_move (v := .pointer _) rfl) ?_
        refine WL_x (x_nilCheck rfl) ?_
        refine WL_x (x_fieldAddr (n := 0) (o' := 0) Try.underlying28 rfl (by kernel_rfl) rfl rfl) ?_
        first | refine WL_x (x_load (v := .slice _ _ _) Try.underlying26 rfl rfl (H.cellAt .zero rfl)) ?_ | refine WL_x (x_load (v := .slice _ _ _) Try.underlying26 rfl rfl (H.cellAt (.succ .zero) rfl)) ?_ | refine WL_x (x_load (v := .slice _ _ _) Try.underlying26 rfl rfl (H.cellAt (.succ (.succ .zero)) rfl)) ?_ | refine WL_x (x_load (v := .slice _ _ _) Try.underlying26 rfl rfl (H.cellAt (.succ (.succ (.succ .zero))) rfl)) ?_ | refine WL_x (x_load (v := .slice _ _ _) Try.underlying26 rfl rfl (H.cellAt (.succ (.succ (.succ (.succ .zero)))) rfl)) ?_
        refine WL_x (x_move (v := .int .i64 _) rfl) ?_
        refine WL_x (x_indexAddr (s := 2) Try.underlying26 (by kernel_rfl) rfl rfl (by omega) (by omega) (H.osome (l := encs WE.enc (decTo k es)) (.succ (.succ .zero)) (by rw [encs_length WE.enc WE.enc_len, decTo_length]; omega)) rfl) ?_
        refine WL_x (x_fieldAddr (n := 0) (o' := _ + 0) Try.underlying46 rfl (by kernel_rfl) rfl rfl) ?_
        refine WL_x (x_load (v := .slice es[k].A es[k].xs.length es[k].c) Try.underlying22 rfl rfl (by rw [Nat.add_assoc, Int.toNat_natCast]; exact H.ocell (.succ (.succ .zero)) (by rw [encs_at WE.enc WE.enc_len (decTo k es) k 0 hkL (by omega), hkg]; rfl))) ?_
        refine WL_buildSliceS (s := 1) (z0 := [(.slice none 0 0)]) (zero := [(.slice none 0 0)]) (cells := [_]) (vs := [(0, .slice _ _ _)]) Try.underlying30 (by kernel_rfl) (by kernel_rfl) rfl rfl rfl rfl H ?_
        intro b33 w H
        refine WL_append (i := Try.t22) (bytes := 24) (size := 1) Try.underlying30 (by kernel_rfl) rfl rfl rfl (by kernel_rfl) rfl rfl rfl H (fun _ _ => .succ .zero) (rfl) (H.bcells .zero) (by simp [Value.oneCell']) (by rw [eo, List.length_append] at hol; simp only [maxLen]; simp at hol; omega) (by rw [eo, List.length_append] at hol; simp at hol; omega) ?_
        intro A34 c34 w H
        replace H := H.pop
        refine WL_x (x_assign (v := .slice _ _ _) rfl) ?_
        refine WL_nil ?_
        refine thenE_normal ?_
        refine WC_region ?_
        refine WL_x (x_move (v := .pointer _) rfl) ?_
        refine WL_x (x_nilCheck rfl) ?_
        refine WL_x (x_fieldAddr (n := 0) (o' := 0) Try.underlying28 rfl (by kernel_rfl) rfl rfl) ?_
        first | refine WL_x (x_load (v := .slice _ _ _) Try.underlying26 rfl rfl (H.cellAt .zero rfl)) ?_ | refine WL_x (x_load (v := .slice _ _ _) Try.underlying26 rfl rfl (H.cellAt (.succ .zero) rfl)) ?_ | refine WL_x (x_load (v := .slice _ _ _) Try.underlying26 rfl rfl (H.cellAt (.succ (.succ .zero)) rfl)) ?_ | refine WL_x (x_load (v := .slice _ _ _) Try.underlying26 rfl rfl (H.cellAt (.succ (.succ (.succ .zero))) rfl)) ?_ | refine WL_x (x_load (v := .slice _ _ _) Try.underlying26 rfl rfl (H.cellAt (.succ (.succ (.succ (.succ .zero)))) rfl)) ?_
        refine WL_x (x_move (v := .int .i64 _) rfl) ?_
        refine WL_x (x_indexAddr (s := 2) Try.underlying26 (by kernel_rfl) rfl rfl (by omega) (by omega) (H.osome (l := encs WE.enc (decTo k es)) (.succ (.succ .zero)) (by rw [encs_length WE.enc WE.enc_len, decTo_length]; omega)) rfl) ?_
        refine WL_x (x_fieldAddr (n := 0) (o' := _ + 1) Try.underlying46 rfl (by kernel_rfl) rfl rfl) ?_
        refine WL_x (x_load (v := .int .i64 es[k].left) Try.underlying3 rfl rfl (by rw [Nat.add_assoc, Int.toNat_natCast]; exact H.ocell (.succ (.succ .zero)) (by rw [encs_at WE.enc WE.enc_len (decTo k es) k 1 hkL (by omega), hkg]; rfl))) ?_
        refine WL_x (x_binop rfl rfl (r_sub_in (i64_in (by omega) (by omega)))) ?_
        refine WL_x (x_indexAddr (s := 2) Try.underlying26 (by kernel_rfl) rfl rfl (by omega) (by omega) (H.osome (l := encs WE.enc (decTo k es)) (.succ (.succ .zero)) (by rw [encs_length WE.enc WE.enc_len, decTo_length]; omega)) rfl) ?_
        refine WL_x (x_fieldAddr (n := 0) (o' := _ + 1) Try.underlying46 rfl (by kernel_rfl) rfl rfl) ?_
        refine WL_storeR (v := .int .i64 _) (o := k * 2 + 1) (n := es.length) (xs := encs WE.enc (decTo k es)) (xs' := encs WE.enc (decTo (k + 1) es)) Try.underlying3 rfl rfl rfl rfl (by kernel_rfl) (by rw [Int.toNat_natCast, Nat.add_assoc]) H (.succ (.succ .zero)) (by rw [encs_length WE.enc WE.enc_len, decTo_length]; omega) (by rw [encs_set WE.enc WE.enc_len (decTo k es) k 1 (es[k]).dec _ hkL (by omega) (by rw [hkg]; rfl), decTo_set k es hk13]) ?_
        intro w H
        refine WL_nil ?_
        refine inBlockE_normal ?_
        refine thenE_normal ?_
        refine WC_region ?_
        refine WL_x (x_binop rfl rfl (r_add_in (i64_in (by omega) (by omega)))) ?_
        refine WL_x (x_move (v := .int .i64 _) rfl) ?_
        refine WL_nil ?_
        refine thenE_normal ?_
        first
          | (refine ⟨k + 1, ⟨by omega, rfl, rfl, rfl, A34, c34, ?_, ?_⟩, by omega⟩
             · rw [eo, List.length_append]; rfl
             · rw [eo, encs_append, List.length_append]; exact H)
          | (refine ⟨k + 1, ⟨by omega, rfl, rfl, rfl, B, d, ?_, ?_⟩, by omega⟩
             · rw [eo, List.append_nil]; rfl
             · rw [eo, List.append_nil]; exact H)
      · rw [if_neg h23] at eo
        refine WC_skip ?_
        refine thenE_normal ?_
        refine WC_region ?_
        refine WL_x (x_move (v := .pointer _) rfl) ?_
        refine WL_x (x_nilCheck rfl) ?_
        refine WL_x (x_fieldAddr (n := 0) (o' := 0) Try.underlying28 rfl (by kernel_rfl) rfl rfl) ?_
        first | refine WL_x (x_load (v := .slice _ _ _) Try.underlying26 rfl rfl (H.cellAt .zero rfl)) ?_ | refine WL_x (x_load (v := .slice _ _ _) Try.underlying26 rfl rfl (H.cellAt (.succ .zero) rfl)) ?_ | refine WL_x (x_load (v := .slice _ _ _) Try.underlying26 rfl rfl (H.cellAt (.succ (.succ .zero)) rfl)) ?_ | refine WL_x (x_load (v := .slice _ _ _) Try.underlying26 rfl rfl (H.cellAt (.succ (.succ (.succ .zero))) rfl)) ?_ | refine WL_x (x_load (v := .slice _ _ _) Try.underlying26 rfl rfl (H.cellAt (.succ (.succ (.succ (.succ .zero)))) rfl)) ?_
        refine WL_x (x_move (v := .int .i64 _) rfl) ?_
        refine WL_x (x_indexAddr (s := 2) Try.underlying26 (by kernel_rfl) rfl rfl (by omega) (by omega) (H.osome (l := encs WE.enc (decTo k es)) (.succ (.succ .zero)) (by rw [encs_length WE.enc WE.enc_len, decTo_length]; omega)) rfl) ?_
        refine WL_x (x_fieldAddr (n := 0) (o' := _ + 1) Try.underlying46 rfl (by kernel_rfl) rfl rfl) ?_
        refine WL_x (x_load (v := .int .i64 es[k].left) Try.underlying3 rfl rfl (by rw [Nat.add_assoc, Int.toNat_natCast]; exact H.ocell (.succ (.succ .zero)) (by rw [encs_at WE.enc WE.enc_len (decTo k es) k 1 hkL (by omega), hkg]; rfl))) ?_
        refine WL_x (x_binop rfl rfl (r_sub_in (i64_in (by omega) (by omega)))) ?_
        refine WL_x (x_indexAddr (s := 2) Try.underlying26 (by kernel_rfl) rfl rfl (by omega) (by omega) (H.osome (l := encs WE.enc (decTo k es)) (.succ (.succ .zero)) (by rw [encs_length WE.enc WE.enc_len, decTo_length]; omega)) rfl) ?_
        refine WL_x (x_fieldAddr (n := 0) (o' := _ + 1) Try.underlying46 rfl (by kernel_rfl) rfl rfl) ?_
        refine WL_storeR (v := .int .i64 _) (o := k * 2 + 1) (n := es.length) (xs := encs WE.enc (decTo k es)) (xs' := encs WE.enc (decTo (k + 1) es)) Try.underlying3 rfl rfl rfl rfl (by kernel_rfl) (by rw [Int.toNat_natCast, Nat.add_assoc]) H (.succ (.succ .zero)) (by rw [encs_length WE.enc WE.enc_len, decTo_length]; omega) (by rw [encs_set WE.enc WE.enc_len (decTo k es) k 1 (es[k]).dec _ hkL (by omega) (by rw [hkg]; rfl), decTo_set k es hk13]) ?_
        intro w H
        refine WL_nil ?_
        refine inBlockE_normal ?_
        refine thenE_normal ?_
        refine WC_region ?_
        refine WL_x (x_binop rfl rfl (r_add_in (i64_in (by omega) (by omega)))) ?_
        refine WL_x (x_move (v := .int .i64 _) rfl) ?_
        refine WL_nil ?_
        refine thenE_normal ?_
        first
          | (refine ⟨k + 1, ⟨by omega, rfl, rfl, rfl, A34, c34, ?_, ?_⟩, by omega⟩
             · rw [eo, List.length_append]; rfl
             · rw [eo, encs_append, List.length_append]; exact H)
          | (refine ⟨k + 1, ⟨by omega, rfl, rfl, rfl, B, d, ?_, ?_⟩, by omega⟩
             · rw [eo, List.append_nil]; rfl
             · rw [eo, List.append_nil]; exact H)
    · refine WC_exit ?_
      refine thenE_exit ?_
      refine thenE_exit ?_
      refine inBlockE_exit ?_
      refine thenE_normal ?_
      refine WC_seq ?_
      obtain rfl : k = es.length := by omega
      rw [List.take_length, decTo_all] at H
      rw [List.take_length]
      have hdel := delete_ok w (es.map WE.dec) A c (by rw [List.length_map]; exact H.ok _ (Has.mem (.succ (.succ .zero))))
      rw [List.length_map] at hdel
      refine WC_region ?_
      refine WL_x (x_move (v := .pointer _) rfl) ?_
      refine WL_x (x_move (v := .pointer _) rfl) ?_
      refine WL_x (x_nilCheck rfl) ?_
      refine WL_x (x_fieldAddr (n := 0) (o' := 0) Try.underlying28 rfl (by kernel_rfl) rfl rfl) ?_
      first | refine WL_x (x_load (v := .slice _ _ _) Try.underlying26 rfl rfl (H.cellAt .zero rfl)) ?_ | refine WL_x (x_load (v := .slice _ _ _) Try.underlying26 rfl rfl (H.cellAt (.succ .zero) rfl)) ?_ | refine WL_x (x_load (v := .slice _ _ _) Try.underlying26 rfl rfl (H.cellAt (.succ (.succ .zero)) rfl)) ?_ | refine WL_x (x_load (v := .slice _ _ _) Try.underlying26 rfl rfl (H.cellAt (.succ (.succ (.succ .zero))) rfl)) ?_ | refine WL_x (x_load (v := .slice _ _ _) Try.underlying26 rfl rfl (H.cellAt (.succ (.succ (.succ (.succ .zero)))) rfl)) ?_
      refine WL_call (vs := [.slice _ _ _, _]) Try.func14 rfl rfl rfl (hdel) ?_
      rintro _ w ⟨rfl, hf, hok⟩
      refine ⟨_, rfl, ?_⟩
      replace H := H.turn (cs' := [row B d 22 1 (outW es).length (encs WE.hdr (outW es)), blk r [.slice A es.length c] 28, row A c 46 2 (keepW (es.map WE.dec)).length (encs WE.enc (keepW (es.map WE.dec)))]) (.succ (.succ .zero)) hf (fun b hb => .inl hb) hok (fun b hb => .inl hb)
      refine WL_x (x_nilCheck rfl) ?_
      refine WL_x (x_fieldAddr (n := 0) (o' := 0) Try.underlying28 rfl (by kernel_rfl) rfl rfl) ?_
      first | refine WL_store (v := .slice _ _ _) Try.underlying26 rfl rfl rfl rfl (by kernel_rfl) H .zero (Nat.le_of_ble_eq_true rfl) rfl ?_ | refine WL_store (v := .slice _ _ _) Try.underlying26 rfl rfl rfl rfl (by kernel_rfl) H (.succ .zero) (Nat.le_of_ble_eq_true rfl) rfl ?_ | refine WL_store (v := .slice _ _ _) Try.underlying26 rfl rfl rfl rfl (by kernel_rfl) H (.succ (.succ .zero)) (Nat.le_of_ble_eq_true rfl) rfl ?_ | refine WL_store (v := .slice _ _ _) Try.underlying26 rfl rfl rfl rfl (by kernel_rfl) H (.succ (.succ (.succ .zero))) (Nat.le_of_ble_eq_true rfl) rfl ?_ | refine WL_store (v := .slice _ _ _) Try.underlying26 rfl rfl rfl rfl (by kernel_rfl) H (.succ (.succ (.succ (.succ .zero)))) (Nat.le_of_ble_eq_true rfl) rfl ?_
      intro w H
      try simp only [List.set_cons_succ, List.set_cons_zero] at H
      refine WL_nil ?_
      refine thenE_normal ?_
      refine WC_seq ?_
      refine WC_region ?_
      refine WL_x (x_move (v := .slice _ _ _) rfl) ?_
      refine WL_x (x_assign (v := .slice _ _ _) rfl) ?_
      refine WL_nil ?_
      refine thenE_normal ?_
      refine WC_ret ?_
      refine ends1 (v := .slice _ _ _) Try.results8 rfl ?_
      exact ⟨B, d, rfl, H.fr, (H.swap.rot3.swap.joinB).ok _ List.mem_cons_self, H.ok _ (Has.mem .zero), H.freshOf (by
        intro b hb
        simp only [wireCk, both, List.mem_append] at hb
        rcases hb with hb | hb
        · exact ⟨_, List.mem_cons_self, hb⟩
        · exact ⟨_, List.mem_cons_of_mem _ List.mem_cons_self, hb⟩)⟩

def spv (mask : Int) (k : Nat) (bit x : Int) : Int := bits .xor .u8 x (IntKind.u8.wrap (IntKind.u8.wrap (bits .and .u32 (mask.fdiv (2 ^ min (k : Int).toNat (IntKind.bits .u32))) 1) * 2 ^ min (bit % 8).toNat (IntKind.bits .u8)))
def spoilTo (xs : List Int) (at_ mask : Int) : Nat → List Int
  | 0 => xs
  | k + 1 => (spoilTo xs at_ mask k).set ((at_ % (8 * xs.length) + k) / 8).toNat (spv mask k (at_ % (8 * xs.length) + k) (nth (spoilTo xs at_ mask k) ((at_ % (8 * xs.length) + k) / 8)))
def spoilL (xs : List Int) (at_ mask : Int) : List Int := spoilTo xs at_ mask (min 32 (8 * xs.length - (at_ % (8 * xs.length)).toNat))
theorem spoilTo_length (xs : List Int) (at_ mask : Int) (k : Nat) : (spoilTo xs at_ mask k).length = xs.length := by
  induction k with
  | zero => rfl
  | succ k ih => simp [spoilTo, ih]
theorem spoilL_length (xs : List Int) (at_ mask : Int) : (spoilL xs at_ mask).length = xs.length := spoilTo_length _ _ _ _

theorem spoil_ok (W : World) (xs : List Int) (A : Option Addr) (c : Nat) (how at_ mask : Int) (hx : Cells W A (nums .u8 xs)) (hl : xs.length ≤ 140737488355328) (ha : 0 ≤ at_ ∧ at_ < 65536) :
    Calls Try.prog 11 #[.slice A xs.length c, .agg #[.int .u8 how, .int .u16 at_, .int .u32 mask]] W fun e w' => ∃ A' c' ys, e = .returned (.slice A' ys.length c') ∧ Fr [] W w' ∧ ys = spoilL xs at_ mask ∧ (row A' c' 5 1 ys.length (nums .u8 ys)).ok w' ∧ ∀ b, b ∈ (row A' c' 5 1 ys.length (nums .u8 ys)).fp → W.heap.size ≤ b := by
  have H : St W [] [] [cells A (nums .u8 xs)] W := St.start [] (by simp; exact cells_ok hx)
  refine calls_enter (N := 47) Try.func11 rfl Try.ntmps11 rfl ?_
  refine WC_seq ?_
  refine WC_region ?_
  refine WL_box (v := .agg (List.toArray _)) rfl rfl H ?_
  intro b3 w H
  refine WL_x (x_assign (v := (.slice none 0 0)) rfl) ?_
  refine WL_nil ?_
  refine thenE_normal ?_
  refine WC_seq ?_
  refine WC_region ?_
  refine WL_x (x_move (v := .slice _ _ _) rfl) ?_
  refine WL_call (vs := [.slice _ _ _]) Try.func13 rfl rfl rfl (clone_ok _ xs A c (H.rcells .zero) (by omega)) ?_
  rintro _ w ⟨B, d, rfl, hf, hok, hfr⟩
  refine ⟨_, rfl, ?_⟩
  replace H := H.new hf hok hfr
  refine WL_x (x_assign (v := .slice _ _ _) rfl) ?_
  refine WL_nil ?_
  refine thenE_normal ?_
  refine WC_seq ?_
  refine WC_region ?_
  refine WL_x (x_move (v := .slice _ _ _) rfl) ?_
  refine WL_x (x_len Try.underlying22 rfl) ?_
  refine WL_x (x_binop rfl rfl (r_mul_in (i64_in (by omega) (by omega)))) ?_
  refine WL_x (x_assign (v := .int .i64 _) rfl) ?_
  refine WL_nil ?_
  refine thenE_normal ?_
  refine WC_seq ?_
  refine WC_seq ?_
  refine WC_region ?_
  refine WL_x (x_move (v := (.int .i64 0)) rfl) ?_
  refine WL_nil ?_
  refine thenE_normal ?_
  refine WC_block ?_
  refine WC_while (fun (k : Nat) f w' => k ≤ min 32 (8 * xs.length - (at_ % (8 * xs.length)).toNat) ∧ f 14 = .int .i64 k ∧ f 6 = .int .i64 (8 * xs.length) ∧ f 5 = .slice B xs.length d ∧ f 3 = .pointer (some ⟨b3, 0, none⟩) ∧ St W [] [row B d 5 1 xs.length (nums .u8 (spoilTo xs at_ mask k)), blk b3 [.int .u8 how, .int .u16 at_, .int .u32 mask] 34] [cells A (nums .u8 xs)] w') (fun k => 32 - k) (s0 := 0) ?_ ?_
  · exact ⟨Nat.zero_le _, rfl, rfl, rfl, rfl, H⟩
  · clear H
    rintro k f w ⟨hk, h14, h6, h5, h3, H⟩
    rw [← upd_self h14, ← upd_self h6, ← upd_self h5, ← upd_self h3]
    have hsl := spoilTo_length xs at_ mask k
    refine WC_seq ?_
    refine WC_region ?_
    refine WL_x (x_binop rfl rfl (r_lss _ _ _ _)) ?_
    refine WL_nil ?_
    refine thenE_normal ?_
    refine WC_seq ?_
    refine WC_ifd rfl (fun h15 => ?_) (fun h15 => ?_)
    · refine WC_skip ?_
      refine thenE_normal ?_
      refine WC_seq ?_
      refine WC_block ?_
      refine WC_seq ?_
      refine WC_region ?_
      refine WL_x (x_move (v := .int .i64 _) rfl) ?_
      refine WL_x (x_assign (v := .int .i64 _) rfl) ?_
      refine WL_nil ?_
      refine thenE_normal ?_
      refine WC_seq ?_
      refine WC_seq ?_
      refine WC_region ?_
      refine WL_x (x_move (v := .int .i64 _) rfl) ?_
      refine WL_x (x_binop rfl rfl (r_eql _ _ _ _)) ?_
      refine WL_nil ?_
      refine thenE_normal ?_
      refine WC_ifd rfl (fun h18 => ?_) (fun h18 => ?_)
      · refine WC_exit ?_
        refine thenE_exit ?_
        refine inBlockE_other rfl ?_
        refine thenE_exit ?_
        refine thenE_exit ?_
        refine inBlockE_exit ?_
        refine thenE_normal ?_
        refine WC_seq ?_
        refine WC_region ?_
        refine WL_x (x_move (v := .slice _ _ _) rfl) ?_
        refine WL_x (x_assign (v := .slice _ _ _) rfl) ?_
        refine WL_nil ?_
        refine thenE_normal ?_
        refine WC_ret ?_
        refine ends1 (v := .slice _ _ _) Try.results11 rfl ?_
        have hks : spoilL xs at_ mask = spoilTo xs at_ mask k := by
          unfold spoilL
          congr 1
          first
            | omega
            | (obtain rfl : xs = [] := List.eq_nil_of_length_eq_zero (by omega)
               simp at hk ⊢
               omega)
        rw [show (xs.length : Nat) = (spoilTo xs at_ mask k).length from hsl.symm] at H ⊢
        exact ⟨B, d, _, rfl, H.fr, hks.symm, H.ok _ (Has.mem .zero), fun b hb => (H.own _ (Has.mem .zero) b hb).resolve_left (by simp)⟩
      · have hm0 : 0 ≤ at_ % (8 * (xs.length : Int)) := Int.emod_nonneg _ h18
        have hm1 : at_ % (8 * (xs.length : Int)) < 8 * xs.length := Int.emod_lt_of_pos _ (by omega)
        refine WC_skip ?_
        refine thenE_normal ?_
        refine WC_seq ?_
        refine WC_region ?_
        refine WL_x (x_fieldAddr (n := 0) (o' := 1) Try.underlying34 rfl (by kernel_rfl) rfl rfl) ?_
        first | refine WL_x (x_load (v := .int .u16 _) Try.underlying31 rfl rfl (H.cellAt .zero rfl)) ?_ | refine WL_x (x_load (v := .int .u16 _) Try.underlying31 rfl rfl (H.cellAt (.succ .zero) rfl)) ?_ | refine WL_x (x_load (v := .int .u16 _) Try.underlying31 rfl rfl (H.cellAt (.succ (.succ .zero)) rfl)) ?_ | refine WL_x (x_load (v := .int .u16 _) Try.underlying31 rfl rfl (H.cellAt (.succ (.succ (.succ .zero))) rfl)) ?_ | refine WL_x (x_load (v := .int .u16 _) Try.underlying31 rfl rfl (H.cellAt (.succ (.succ (.succ (.succ .zero)))) rfl)) ?_ | refine WL_x (x_load Try.underlying31 rfl rfl (H.rnum .zero (by omega) (by omega))) ?_ | refine WL_x (x_load Try.underlying31 rfl rfl (H.rnum (.succ .zero) (by omega) (by omega))) ?_ | refine WL_x (x_load Try.underlying31 rfl rfl (H.rnum (.succ (.succ .zero)) (by omega) (by omega))) ?_ | refine WL_x (x_load Try.underlying31 rfl rfl (H.onum .zero (by omega) (by omega))) ?_ | refine WL_x (x_load Try.underlying31 rfl rfl (H.onum (.succ .zero) (by omega) (by omega))) ?_ | refine WL_x (x_load Try.underlying31 rfl rfl (H.onum (.succ (.succ .zero)) (by omega) (by omega))) ?_
        refine WL_x (x_convert Try.underlying31 Try.underlying3 rfl (i64_in (by omega) (by omega))) ?_
        refine WL_x (x_move (v := .int .i64 _) rfl) ?_
        refine WL_x (x_binop rfl rfl (r_rem_nat (by omega) (by omega))) ?_
        refine WL_x (x_move (v := .int .i64 _) rfl) ?_
        refine WL_x (x_binop rfl rfl (r_add_in (i64_in (by omega) (by omega)))) ?_
        refine WL_x (x_assign (v := .int .i64 _) rfl) ?_
        refine WL_nil ?_
        refine thenE_normal ?_
        refine WC_seq ?_
        refine WC_seq ?_
        refine WC_region ?_
        refine WL_x (x_move (v := .int .i64 _) rfl) ?_
        refine WL_x (x_move (v := .int .i64 _) rfl) ?_
        refine WL_x (x_binop rfl rfl (r_geq _ _ _ _)) ?_
        refine WL_nil ?_
        refine thenE_normal ?_
        refine WC_ifd rfl (fun h28 => ?_) (fun h28 => ?_)
        · refine WC_exit ?_
          refine thenE_exit ?_
          refine inBlockE_other rfl ?_
          refine thenE_exit ?_
          refine thenE_exit ?_
          refine inBlockE_exit ?_
          refine thenE_normal ?_
          refine WC_seq ?_
          refine WC_region ?_
          refine WL_x (x_move (v := .slice _ _ _) rfl) ?_
          refine WL_x (x_assign (v := .slice _ _ _) rfl) ?_
          refine WL_nil ?_
          refine thenE_normal ?_
          refine WC_ret ?_
          refine ends1 (v := .slice _ _ _) Try.results11 rfl ?_
          have hks : spoilL xs at_ mask = spoilTo xs at_ mask k := by
            unfold spoilL
            congr 1
            first
              | omega
              | (obtain rfl : xs = [] := List.eq_nil_of_length_eq_zero (by omega)
                 simp at hk ⊢
                 omega)
          rw [show (xs.length : Nat) = (spoilTo xs at_ mask k).length from hsl.symm] at H ⊢
          exact ⟨B, d, _, rfl, H.fr, hks.symm, H.ok _ (Has.mem .zero), fun b hb => (H.own _ (Has.mem .zero) b hb).resolve_left (by simp)⟩
        · refine WC_skip ?_
          refine thenE_normal ?_
          refine WC_drawH (m := 17) (listed := [false, false, false, false, false, false, false, false, false, false, false, false, false, false, false, false, false]) 16 (by kernel_rfl) rfl rfl H ?_
          intro w H
          refine WG_take (i := 0) (listed' := [true, false, false, false, false, false, false, false, false, false, false, false, false, false, false, false, false]) rfl (by kernel_rfl) (fun w H => x_move (v := .slice _ _ _) rfl) H rfl ?_
          refine WG_take (i := 1) (listed' := [true, true, false, false, false, false, false, false, false, false, false, false, false, false, false, false, false]) rfl (by kernel_rfl) (fun w H => x_move (v := .int .i64 _) rfl) H rfl ?_
          refine WG_take (i := 2) (listed' := [true, true, true, false, false, false, false, false, false, false, false, false, false, false, false, false, false]) rfl (by kernel_rfl) (fun w H => x_binop rfl rfl (r_quo_nat (by omega) (by omega) (i64_in (by omega) (by omega)))) H rfl ?_
          refine WG_take (i := 3) (listed' := [true, true, true, true, false, false, false, false, false, false, false, false, false, false, false, false, false]) rfl (by kernel_rfl) (fun w H => x_indexAddr (s := 1) Try.underlying22 (by kernel_rfl) rfl rfl (by omega) (by omega) (by first | rfl | assumption | exact H.rsomen .zero (by omega) | exact H.rsomen (.succ .zero) (by omega) | exact H.rsomen (.succ (.succ .zero)) (by omega) | exact H.osomen .zero (by omega) | exact H.osomen (.succ .zero) (by omega) | exact H.osomen (.succ (.succ .zero)) (by omega)) rfl) H rfl ?_
          first | refine WG_take (i := 4) (listed' := [true, true, true, true, true, false, false, false, false, false, false, false, false, false, false, false, false]) rfl (by kernel_rfl) (fun w H => x_load (v := .int .u8 _) Try.underlying5 rfl rfl (H.cellAt .zero rfl)) H rfl ?_ | refine WG_take (i := 4) (listed' := [true, true, true, true, true, false, false, false, false, false, false, false, false, false, false, false, false]) rfl (by kernel_rfl) (fun w H => x_load (v := .int .u8 _) Try.underlying5 rfl rfl (H.cellAt (.succ .zero) rfl)) H rfl ?_ | refine WG_take (i := 4) (listed' := [true, true, true, true, true, false, false, false, false, false, false, false, false, false, false, false, false]) rfl (by kernel_rfl) (fun w H => x_load (v := .int .u8 _) Try.underlying5 rfl rfl (H.cellAt (.succ (.succ .zero)) rfl)) H rfl ?_ | refine WG_take (i := 4) (listed' := [true, true, true, true, true, false, false, false, false, false, false, false, false, false, false, false, false]) rfl (by kernel_rfl) (fun w H => x_load (v := .int .u8 _) Try.underlying5 rfl rfl (H.cellAt (.succ (.succ (.succ .zero))) rfl)) H rfl ?_ | refine WG_take (i := 4) (listed' := [true, true, true, true, true, false, false, false, false, false, false, false, false, false, false, false, false]) rfl (by kernel_rfl) (fun w H => x_load (v := .int .u8 _) Try.underlying5 rfl rfl (H.cellAt (.succ (.succ (.succ (.succ .zero)))) rfl)) H rfl ?_ | refine WG_take (i := 4) (listed' := [true, true, true, true, true, false, false, false, false, false, false, false, false, false, false, false, false]) rfl (by kernel_rfl) (fun w H => x_load Try.underlying5 rfl rfl (H.rnum .zero (by omega) (by omega))) H rfl ?_ | refine WG_take (i := 4) (listed' := [true, true, true, true, true, false, false, false, false, false, false, false, false, false, false, false, false]) rfl (by kernel_rfl) (fun w H => x_load Try.underlying5 rfl rfl (H.rnum (.succ .zero) (by omega) (by omega))) H rfl ?_ | refine WG_take (i := 4) (listed' := [true, true, true, true, true, false, false, false, false, false, false, false, false, false, false, false, false]) rfl (by kernel_rfl) (fun w H => x_load Try.underlying5 rfl rfl (H.rnum (.succ (.succ .zero)) (by omega) (by omega))) H rfl ?_ | refine WG_take (i := 4) (listed' := [true, true, true, true, true, false, false, false, false, false, false, false, false, false, false, false, false]) rfl (by kernel_rfl) (fun w H => x_load Try.underlying5 rfl rfl (H.onum .zero (by omega) (by omega))) H rfl ?_ | refine WG_take (i := 4) (listed' := [true, true, true, true, true, false, false, false, false, false, false, false, false, false, false, false, false]) rfl (by kernel_rfl) (fun w H => x_load Try.underlying5 rfl rfl (H.onum (.succ .zero) (by omega) (by omega))) H rfl ?_ | refine WG_take (i := 4) (listed' := [true, true, true, true, true, false, false, false, false, false, false, false, false, false, false, false, false]) rfl (by kernel_rfl) (fun w H => x_load Try.underlying5 rfl rfl (H.onum (.succ (.succ .zero)) (by omega) (by omega))) H rfl ?_
          refine WG_take (i := 5) (listed' := [true, true, true, true, true, true, false, false, false, false, false, false, false, false, false, false, false]) rfl (by kernel_rfl) (fun w H => x_fieldAddr (n := 0) (o' := 2) Try.underlying34 rfl (by kernel_rfl) rfl rfl) H rfl ?_
          first | refine WG_take (i := 6) (listed' := [true, true, true, true, true, true, true, false, false, false, false, false, false, false, false, false, false]) rfl (by kernel_rfl) (fun w H => x_load (v := .int .u32 _) Try.underlying32 rfl rfl (H.cellAt .zero rfl)) H rfl ?_ | refine WG_take (i := 6) (listed' := [true, true, true, true, true, true, true, false, false, false, false, false, false, false, false, false, false]) rfl (by kernel_rfl) (fun w H => x_load (v := .int .u32 _) Try.underlying32 rfl rfl (H.cellAt (.succ .zero) rfl)) H rfl ?_ | refine WG_take (i := 6) (listed' := [true, true, true, true, true, true, true, false, false, false, false, false, false, false, false, false, false]) rfl (by kernel_rfl) (fun w H => x_load (v := .int .u32 _) Try.underlying32 rfl rfl (H.cellAt (.succ (.succ .zero)) rfl)) H rfl ?_ | refine WG_take (i := 6) (listed' := [true, true, true, true, true, true, true, false, false, false, false, false, false, false, false, false, false]) rfl (by kernel_rfl) (fun w H => x_load (v := .int .u32 _) Try.underlying32 rfl rfl (H.cellAt (.succ (.succ (.succ .zero))) rfl)) H rfl ?_ | refine WG_take (i := 6) (listed' := [true, true, true, true, true, true, true, false, false, false, false, false, false, false, false, false, false]) rfl (by kernel_rfl) (fun w H => x_load (v := .int .u32 _) Try.underlying32 rfl rfl (H.cellAt (.succ (.succ (.succ (.succ .zero)))) rfl)) H rfl ?_ | refine WG_take (i := 6) (listed' := [true, true, true, true, true, true, true, false, false, false, false, false, false, false, false, false, false]) rfl (by kernel_rfl) (fun w H => x_load Try.underlying32 rfl rfl (H.rnum .zero (by omega) (by omega))) H rfl ?_ | refine WG_take (i := 6) (listed' := [true, true, true, true, true, true, true, false, false, false, false, false, false, false, false, false, false]) rfl (by kernel_rfl) (fun w H => x_load Try.underlying32 rfl rfl (H.rnum (.succ .zero) (by omega) (by omega))) H rfl ?_ | refine WG_take (i := 6) (listed' := [true, true, true, true, true, true, true, false, false, false, false, false, false, false, false, false, false]) rfl (by kernel_rfl) (fun w H => x_load Try.underlying32 rfl rfl (H.rnum (.succ (.succ .zero)) (by omega) (by omega))) H rfl ?_ | refine WG_take (i := 6) (listed' := [true, true, true, true, true, true, true, false, false, false, false, false, false, false, false, false, false]) rfl (by kernel_rfl) (fun w H => x_load Try.underlying32 rfl rfl (H.onum .zero (by omega) (by omega))) H rfl ?_ | refine WG_take (i := 6) (listed' := [true, true, true, true, true, true, true, false, false, false, false, false, false, false, false, false, false]) rfl (by kernel_rfl) (fun w H => x_load Try.underlying32 rfl rfl (H.onum (.succ .zero) (by omega) (by omega))) H rfl ?_ | refine WG_take (i := 6) (listed' := [true, true, true, true, true, true, true, false, false, false, false, false, false, false, false, false, false]) rfl (by kernel_rfl) (fun w H => x_load Try.underlying32 rfl rfl (H.onum (.succ (.succ .zero)) (by omega) (by omega))) H rfl ?_
          refine WG_take (i := 7) (listed' := [true, true, true, true, true, true, true, true, false, false, false, false, false, false, false, false, false]) rfl (by kernel_rfl) (fun w H => x_move (v := .int .i64 _) rfl) H rfl ?_
          refine WG_take (i := 8) (listed' := [true, true, true, true, true, true, true, true, true, false, false, false, false, false, false, false, false]) rfl (by kernel_rfl) (fun w H => x_binop rfl rfl (r_shr (by omega))) H rfl ?_
          refine WG_take (i := 9) (listed' := [true, true, true, true, true, true, true, true, true, true, false, false, false, false, false, false, false]) rfl (by kernel_rfl) (fun w H => x_binop rfl rfl (r_and _ _ _ _)) H rfl ?_
          refine WG_take (i := 10) (listed' := [true, true, true, true, true, true, true, true, true, true, true, false, false, false, false, false, false]) rfl (by kernel_rfl) (fun w H => x_convert Try.underlying32 Try.underlying5 rfl rfl) H rfl ?_
          refine WG_take (i := 11) (listed' := [true, true, true, true, true, true, true, true, true, true, true, true, false, false, false, false, false]) rfl (by kernel_rfl) (fun w H => x_move (v := .int .i64 _) rfl) H rfl ?_
          refine WG_take (i := 12) (listed' := [true, true, true, true, true, true, true, true, true, true, true, true, true, false, false, false, false]) rfl (by kernel_rfl) (fun w H => x_binop rfl rfl (r_rem_nat (by omega) (by omega))) H rfl ?_
          refine WG_take (i := 13) (listed' := [true, true, true, true, true, true, true, true, true, true, true, true, true, true, false, false, false]) rfl (by kernel_rfl) (fun w H => x_binop rfl rfl (r_shl (by omega))) H rfl ?_
          refine WG_take (i := 14) (listed' := [true, true, true, true, true, true, true, true, true, true, true, true, true, true, true, false, false]) rfl (by kernel_rfl) (fun w H => x_binop rfl rfl (r_xor _ _ _ _)) H rfl ?_
          refine WG_take (i := 15) (listed' := [true, true, true, true, true, true, true, true, true, true, true, true, true, true, true, true, false]) rfl (by kernel_rfl) (fun w H => x_indexAddr (s := 1) Try.underlying22 (by kernel_rfl) rfl rfl (by omega) (by omega) (by first | rfl | assumption | exact H.rsomen .zero (by omega) | exact H.rsomen (.succ .zero) (by omega) | exact H.rsomen (.succ (.succ .zero)) (by omega) | exact H.osomen .zero (by omega) | exact H.osomen (.succ .zero) (by omega) | exact H.osomen (.succ (.succ .zero)) (by omega)) rfl) H rfl ?_
          refine WG_fin (listed' := [true, true, true, true, true, true, true, true, true, true, true, true, true, true, true, true, true]) rfl rfl (by kernel_rfl) rfl (by kernel_rfl) ?_
          refine WL_storeR (v := .int .u8 _) (o := ((at_ % (8 * (xs.length : Int)) + k) / 8).toNat) (n := xs.length) (xs := nums .u8 (spoilTo xs at_ mask k)) (xs' := nums .u8 (spoilTo xs at_ mask (k + 1))) Try.underlying5 rfl rfl rfl rfl (by kernel_rfl) (by rw [Nat.mul_one]) H .zero (by rw [nums_length, hsl]; omega) (by rw [nums_set]; rfl) ?_
          intro w H
          refine WL_nil ?_
          refine fin_mk ?_
          refine inBlockE_normal ?_
          refine thenE_normal ?_
          refine WC_region ?_
          refine WL_x (x_binop rfl rfl (r_add_in (i64_in (by omega) (by omega)))) ?_
          refine WL_x (x_move (v := .int .i64 _) rfl) ?_
          refine WL_nil ?_
          refine thenE_normal ?_
          refine ⟨k + 1, ⟨by omega, rfl, rfl, rfl, rfl, H⟩, by omega⟩
    · refine WC_exit ?_
      refine thenE_exit ?_
      refine thenE_exit ?_
      refine inBlockE_exit ?_
      refine thenE_normal ?_
      refine WC_seq ?_
      refine WC_region ?_
      refine WL_x (x_move (v := .slice _ _ _) rfl) ?_
      refine WL_x (x_assign (v := .slice _ _ _) rfl) ?_
      refine WL_nil ?_
      refine thenE_normal ?_
      refine WC_ret ?_
      refine ends1 (v := .slice _ _ _) Try.results11 rfl ?_
      have hks : spoilL xs at_ mask = spoilTo xs at_ mask k := by
        unfold spoilL
        congr 1
        first
          | omega
          | (obtain rfl : xs = [] := List.eq_nil_of_length_eq_zero (by omega)
             simp at hk ⊢
             omega)
      rw [show (xs.length : Nat) = (spoilTo xs at_ mask k).length from hsl.symm] at H ⊢
      exact ⟨B, d, _, rfl, H.fr, hks.symm, H.ok _ (Has.mem .zero), fun b hb => (H.own _ (Has.mem .zero) b hb).resolve_left (by simp)⟩

structure FT where
  how : Int
  at_ : Int
  mask : Int
def FT.enc (g : FT) : List Value := [.int .u8 g.how, .int .u16 g.at_, .int .u32 g.mask]
theorem FT.enc_len (g : FT) : g.enc.length = 3 := rfl
def FT.zero : FT := ⟨0, 0, 0⟩
/-- what comes of a frame: its bytes, and how long each of them waits -/
def putOne (xs : List Int) (g : FT) : List (List Int × Int) := (times g.how).map fun n => (if g.how = 4 then spoilL xs g.at_ g.mask else xs, n)
def putSpec (F : List BS) (G : List FT) : List (List Int × Int) := F.zipIdx.flatMap fun x => putOne x.1.xs (G.getD x.2 FT.zero)
theorem putSpec_succ (F : List BS) (G : List FT) (k : Nat) (h : k < F.length) : putSpec (F.take (k + 1)) G = putSpec (F.take k) G ++ putOne F[k].xs (G.getD k FT.zero) := by
  unfold putSpec
  rw [List.take_succ_eq_append_getElem h, List.zipIdx_append, List.flatMap_append]
  simp [show min k F.length = k by omega]
theorem times_le (how : Int) : (times how).length ≤ 2 := by
  unfold times
  repeat (first | split | simp)
theorem putOne_le (xs : List Int) (g : FT) : (putOne xs g).length ≤ 2 := by
  unfold putOne
  rw [List.length_map]
  exact times_le _
theorem putSpec_le (F : List BS) (G : List FT) (k : Nat) (h : k ≤ F.length) : (putSpec (F.take k) G).length ≤ 2 * k := by
  induction k with
  | zero => simp [putSpec]
  | succ k ih =>
    rw [putSpec_succ F G k (by omega), List.length_append]
    have := putOne_le F[k].xs (G.getD k FT.zero)
    have := ih (by omega)
    omega
def WE.say (e : WE) : List Int × Int := (e.xs, e.left)
/-- the frames that wait, each in memory of its own -/
def bundle (es : List WE) : Ck := ⟨es.flatMap fun e => e.ck.fp, fun w => ∀ e, e ∈ es → e.ck.R w, fun w w' h hR e he => e.ck.loc w w' (fun b hb => h b (List.mem_flatMap.2 ⟨e, he, hb⟩)) (hR e he)⟩
def apartW (es : List WE) : Prop := es.Pairwise fun x y => ∀ b, b ∈ x.ck.fp → b ∉ y.ck.fp
theorem bundle_nil (w : World) : (bundle []).ok w := ⟨by simp [bundle], by simp [bundle]⟩
theorem bundle_snoc {w : World} {es : List WE} {e : WE} (h1 : e.ck.ok w) (h2 : (bundle es).ok w) : (bundle (es ++ [e])).ok w :=
  ⟨fun x hx => by
    simp only [List.mem_append, List.mem_singleton] at hx
    rcases hx with hx | rfl
    · exact h2.r x hx
    · exact h1.r, fun b hb => by
    simp only [bundle, List.flatMap_append, List.mem_append, List.flatMap_cons, List.flatMap_nil, List.append_nil] at hb
    rcases hb with hb | hb
    · exact h2.lt b hb
    · exact h1.lt b hb⟩
theorem apart_snoc {es : List WE} {e : WE} (h : apartW es) (hd : ∀ b, b ∈ e.ck.fp → b ∉ (bundle es).fp) : apartW (es ++ [e]) := by
  refine List.pairwise_append.2 ⟨h, by simp, fun x hx y hy b hb hm => ?_⟩
  simp at hy
  subst hy
  exact hd b hm (List.mem_flatMap.2 ⟨x, hx, hb⟩)

theorem put_ok (W : World) (r : Nat) (A : Option Addr) (c : Nat) (es : List WE) (F : List BS) (G : List FT) (B D : Option Addr) (c1 c2 : Nat) (hw : (wireCk r A c es).ok W)
    (hB : Cells W B (encs BS.enc F)) (hF : ∀ b, b ∈ F → Cells W b.A (nums .u8 b.xs)) (hD : Cells W D (encs FT.enc G)) (hGr : ∀ g, g ∈ G → 0 ≤ g.at_ ∧ g.at_ < 65536)
    (hap : ∀ b, b ∈ (wireCk r A c es).fp → b ∉ (cells B (encs BS.enc F)).fp ∧ b ∉ (cells D (encs FT.enc G)).fp ∧ ∀ x, x ∈ F → b ∉ x.ck.fp)
    (hl : (es.length + 2 * F.length) * 32 ≤ 140737488355328) (hb : ∀ b, b ∈ F → b.xs.length ≤ 140737488355328) (hG : G.length ≤ maxLen) :
    Calls Try.prog 7 #[.pointer (some ⟨r, 0, none⟩), .slice B F.length c1, .slice D G.length c2] W fun e w' => ∃ A' c' news, e = .returned (.tuple #[]) ∧ Fr (wireCk r A c es).fp W w' ∧ news.map WE.say = putSpec F G ∧ apartW news ∧
      (both (bundle news) (wireCk r A' c' (es ++ news))).ok w' ∧ (∀ b, b ∈ (bundle news).fp → W.heap.size ≤ b) ∧ (∀ b, b ∈ (wireCk r A' c' (es ++ news)).fp → b ∈ (wireCk r A c es).fp ∨ W.heap.size ≤ b) := by
  unfold maxLen at hG
  have H : St W (wireCk r A c es).fp [wireCk r A c es] (cells B (encs BS.enc F) :: cells D (encs FT.enc G) :: F.map BS.ck) W := St.oneRo hw (by
    intro d hd
    simp only [List.mem_cons, List.mem_map] at hd
    rcases hd with rfl | rfl | ⟨b, hb, rfl⟩
    · exact cells_ok hB
    · exact cells_ok hD
    · exact cells_ok (hF b hb)) (by
    intro d hd b hb hm
    simp only [List.mem_cons, List.mem_map] at hd
    rcases hd with rfl | rfl | ⟨x, hx, rfl⟩
    · exact (hap b hb).1 hm
    · exact (hap b hb).2.1 hm
    · exact (hap b hb).2.2 x hx hm)
  replace H := H.splitB
  refine calls_enter (N := 56) Try.func7 rfl Try.ntmps7 rfl ?_
  refine WC_seq ?_
  refine WC_seq ?_
  refine WC_region ?_
  refine WL_x (x_move (v := .pointer _) rfl) ?_
  refine WL_x (x_ptr_eql_nil Try.underlying38 rfl rfl) ?_
  refine WL_nil ?_
  refine thenE_normal ?_
  refine WC_no rfl ?_
  refine WC_skip ?_
  refine thenE_normal ?_
  refine WC_seq ?_
  refine WC_region ?_
  refine WL_x (x_move (v := .slice _ _ _) rfl) ?_
  refine WL_x (x_len Try.underlying30 rfl) ?_
  refine WL_x (x_move (v := (.int .i64 0)) rfl) ?_
  refine WL_nil ?_
  refine thenE_normal ?_
  refine WC_block ?_
  refine WC_while (fun (k : Nat) f w' => k ≤ F.length ∧ f 15 = .int .i64 k ∧ f 14 = .int .i64 F.length ∧ f 13 = .slice B F.length c1 ∧ f 2 = .slice D G.length c2 ∧ (∃ A' c' news, f 0 = .pointer (some ⟨r, 0, none⟩) ∧ news.map WE.say = putSpec (F.take k) G ∧ apartW news ∧ (∀ b, b ∈ (bundle news).fp → W.heap.size ≤ b) ∧ St W (wireCk r A c es).fp [bundle news, blk r [.slice A' (es ++ news).length c'] 28, row A' c' 46 2 (es ++ news).length (encs WE.enc (es ++ news))] (cells B (encs BS.enc F) :: cells D (encs FT.enc G) :: F.map BS.ck) w')) (fun k => F.length - k) (s0 := 0) ?_ ?_
  · replace H := H.new (c := bundle []) (Fr.refl _ _) (bundle_nil _) (by simp [bundle])
    exact ⟨Nat.zero_le _, rfl, rfl, rfl, rfl, A, c, [], rfl, rfl, List.Pairwise.nil, by simp [bundle], by rw [List.append_nil]; exact H⟩
  · clear H
    rintro k f w ⟨hk, h15, h14, h13, h2, A', c', news, h0, hsay, hapn, hfr, H⟩
    rw [← upd_self h15, ← upd_self h14, ← upd_self h13, ← upd_self h2, ← upd_self h0]
    refine WC_seq ?_
    refine WC_region ?_
    refine WL_x (x_binop rfl rfl (r_lss _ _ _ _)) ?_
    refine WL_nil ?_
    refine thenE_normal ?_
    refine WC_seq ?_
    refine WC_ifd rfl (fun h16 => ?_) (fun h16 => ?_)
    · have hk16 : k < F.length := by omega
      have hmemF : F[k] ∈ F := List.getElem_mem _
      refine WC_skip ?_
      refine thenE_normal ?_
      refine WC_seq ?_
      refine WC_block ?_
      refine WC_seq ?_
      refine WC_region ?_
      refine WL_x (x_move (v := .int .i64 _) rfl) ?_
      refine WL_x (x_indexAddr (s := 1) Try.underlying30 (by kernel_rfl) rfl rfl (by omega) (by omega) (H.rsome (l := encs BS.enc F) .zero (by rw [encs_length BS.enc BS.enc_len]; omega)) rfl) ?_
      refine WL_x (x_load (v := .slice F[k].A F[k].xs.length F[k].c) Try.underlying22 rfl rfl (H.rcell (l := encs BS.enc F) .zero (by rw [Int.toNat_natCast]; exact encs_at BS.enc BS.enc_len F k 0 hk16 (by omega)))) ?_
      refine WL_x (x_assign (v := .int .i64 _) rfl) ?_
      refine WL_x (x_assign (v := .slice _ _ _) rfl) ?_
      refine WL_nil ?_
      refine thenE_normal ?_
      refine WC_seq ?_
      refine WC_region ?_
      refine WL_alloc (l := [(.int .u8 0), (.int .u16 0), (.int .u32 0)]) (by kernel_rfl) H ?_
      intro b8 w H
      refine WL_nil ?_
      refine thenE_normal ?_
      refine WC_cut (fun (_ : Unit) f w' => f 8 = .pointer (some ⟨b8, 0, none⟩) ∧ f 15 = .int .i64 k ∧ f 14 = .int .i64 F.length ∧ f 13 = .slice B F.length c1 ∧ f 2 = .slice D G.length c2 ∧ f 0 = .pointer (some ⟨r, 0, none⟩) ∧ f 7 = .slice F[k].A F[k].xs.length F[k].c ∧ St W (wireCk r A c es).fp [blk b8 (G.getD k FT.zero).enc 34, bundle news, blk r [.slice A' (es ++ news).length c'] 28, row A' c' 46 2 (es ++ news).length (encs WE.enc (es ++ news))] (cells B (encs BS.enc F) :: cells D (encs FT.enc G) :: F.map BS.ck) w') ?_ ?_
      · refine WC_seq ?_
        refine WC_region ?_
        refine WL_x (x_move (v := .int .i64 _) rfl) ?_
        refine WL_x (x_move (v := .slice _ _ _) rfl) ?_
        refine WL_x (x_len Try.underlying35 rfl) ?_
        refine WL_x (x_binop rfl rfl (r_lss _ _ _ _)) ?_
        refine WL_nil ?_
        refine thenE_normal ?_
        refine WC_ifd rfl (fun h23 => ?_) (fun h23 => ?_)
        · have hk23 : k < G.length := by omega
          refine WC_region ?_
          refine WL_x (x_move (v := .slice _ _ _) rfl) ?_
          refine WL_x (x_move (v := .int .i64 _) rfl) ?_
          refine WL_x (x_indexAddr (s := 3) Try.underlying35 (by kernel_rfl) rfl rfl (by omega) (by omega) (H.rsome (l := encs FT.enc G) (.succ .zero) (by rw [encs_length FT.enc FT.enc_len]; omega)) rfl) ?_
          refine WL_x (x_loadA (n := 3) (vs := (G[k]).enc) Try.underlying34 rfl (by kernel_rfl) rfl rfl (H.rrange (k := 3) (.succ .zero) (by rw [Int.toNat_natCast]; exact encs_get FT.enc FT.enc_len G k hk23))) ?_
          first | refine WL_storeA rfl rfl rfl (by kernel_rfl) H .zero (Nat.le_of_ble_eq_true rfl) (splice_all _ _ rfl) ?_ | refine WL_storeA rfl rfl rfl (by kernel_rfl) H (.succ .zero) (Nat.le_of_ble_eq_true rfl) (splice_all _ _ rfl) ?_ | refine WL_storeA rfl rfl rfl (by kernel_rfl) H (.succ (.succ .zero)) (Nat.le_of_ble_eq_true rfl) (splice_all _ _ rfl) ?_ | refine WL_storeA rfl rfl rfl (by kernel_rfl) H (.succ (.succ (.succ .zero))) (Nat.le_of_ble_eq_true rfl) (splice_all _ _ rfl) ?_ | refine WL_storeA rfl rfl rfl (by kernel_rfl) H (.succ (.succ (.succ (.succ .zero)))) (Nat.le_of_ble_eq_true rfl) (splice_all _ _ rfl) ?_ | refine WL_storeA rfl rfl rfl (by kernel_rfl) H (.succ (.succ (.succ (.succ (.succ .zero))))) (Nat.le_of_ble_eq_true rfl) (splice_all _ _ rfl) ?_ | refine WL_storeA rfl rfl rfl (by kernel_rfl) H (.succ (.succ (.succ (.succ (.succ (.succ .zero)))))) (Nat.le_of_ble_eq_true rfl) (splice_all _ _ rfl) ?_ | refine WL_storeA rfl rfl rfl (by kernel_rfl) H (.succ (.succ (.succ (.succ (.succ (.succ (.succ .zero))))))) (Nat.le_of_ble_eq_true rfl) (splice_all _ _ rfl) ?_
          intro w H
          refine WL_nil ?_
          refine thenE_normal ?_
          first
            | exact ⟨(), rfl, rfl, rfl, rfl, rfl, rfl, rfl, by rw [show G.getD k FT.zero = G[k] by simp [hk23]]; exact H⟩
            | exact ⟨(), rfl, rfl, rfl, rfl, rfl, rfl, rfl, by rw [show G.getD k FT.zero = FT.zero by simp [show ¬ k < G.length by omega]]; exact H⟩
        · refine WC_skip ?_
          refine thenE_normal ?_
          first
            | exact ⟨(), rfl, rfl, rfl, rfl, rfl, rfl, rfl, by rw [show G.getD k FT.zero = G[k] by simp [hk23]]; exact H⟩
            | exact ⟨(), rfl, rfl, rfl, rfl, rfl, rfl, rfl, by rw [show G.getD k FT.zero = FT.zero by simp [show ¬ k < G.length by omega]]; exact H⟩
      · clear H
        rintro ⟨⟩ f w ⟨h8, h15, h14, h13, h2, h0, h7, H⟩
        rw [← upd_self h15, ← upd_self h14, ← upd_self h13, ← upd_self h2, ← upd_self h0, ← upd_self h7, ← upd_self h8]
        have hg0 : 0 ≤ (G.getD k FT.zero).at_ ∧ (G.getD k FT.zero).at_ < 65536 := by
          by_cases h : k < G.length
          · simp only [List.getD_eq_getElem?_getD, List.getElem?_eq_getElem h, Option.getD_some]; exact hGr _ (List.getElem_mem _)
          · simp [h, FT.zero]
        obtain ⟨g, hg⟩ : ∃ g, g = G.getD k FT.zero := ⟨_, rfl⟩
        rw [← hg] at H hg0
        refine WC_cut (fun (s : Option Addr × Nat × List Int) f w' => s.2.2 = (if g.how = 4 then spoilL F[k].xs g.at_ g.mask else F[k].xs) ∧ f 8 = .pointer (some ⟨b8, 0, none⟩) ∧ f 15 = .int .i64 k ∧ f 14 = .int .i64 F.length ∧ f 13 = .slice B F.length c1 ∧ f 2 = .slice D G.length c2 ∧ f 0 = .pointer (some ⟨r, 0, none⟩) ∧ f 7 = .slice s.1 s.2.2.length s.2.1 ∧ St W (wireCk r A c es).fp [blk b8 g.enc 34, bundle news, blk r [.slice A' (es ++ news).length c'] 28, row A' c' 46 2 (es ++ news).length (encs WE.enc (es ++ news))] (cells s.1 (nums .u8 s.2.2) :: (cells B (encs BS.enc F) :: cells D (encs FT.enc G) :: F.map BS.ck)) w') ?_ ?_
        · refine WC_seq ?_
          refine WC_region ?_
          refine WL_x (x_fieldAddr (n := 0) (o' := 0) Try.underlying34 rfl (by kernel_rfl) rfl rfl) ?_
          first | refine WL_x (x_load (v := .int .u8 _) Try.underlying5 rfl rfl (H.cellAt .zero rfl)) ?_ | refine WL_x (x_load (v := .int .u8 _) Try.underlying5 rfl rfl (H.cellAt (.succ .zero) rfl)) ?_ | refine WL_x (x_load (v := .int .u8 _) Try.underlying5 rfl rfl (H.cellAt (.succ (.succ .zero)) rfl)) ?_ | refine WL_x (x_load (v := .int .u8 _) Try.underlying5 rfl rfl (H.cellAt (.succ (.succ (.succ .zero))) rfl)) ?_ | refine WL_x (x_load (v := .int .u8 _) Try.underlying5 rfl rfl (H.cellAt (.succ (.succ (.succ (.succ .zero)))) rfl)) ?_ | refine WL_x (x_load (v := .int .u8 _) Try.underlying5 rfl rfl (H.cellAt (.succ (.succ (.succ (.succ (.succ .zero))))) rfl)) ?_ | refine WL_x (x_load (v := .int .u8 _) Try.underlying5 rfl rfl (H.cellAt (.succ (.succ (.succ (.succ (.succ (.succ .zero)))))) rfl)) ?_ | refine WL_x (x_load (v := .int .u8 _) Try.underlying5 rfl rfl (H.cellAt (.succ (.succ (.succ (.succ (.succ (.succ (.succ .zero))))))) rfl)) ?_ | refine WL_x (x_load Try.underlying5 rfl rfl (H.rnum .zero (by omega) (by omega))) ?_ | refine WL_x (x_load Try.underlying5 rfl rfl (H.rnum (.succ .zero) (by omega) (by omega))) ?_ | refine WL_x (x_load Try.underlying5 rfl rfl (H.rnum (.succ (.succ .zero)) (by omega) (by omega))) ?_ | refine WL_x (x_load Try.underlying5 rfl rfl (H.onum .zero (by omega) (by omega))) ?_ | refine WL_x (x_load Try.underlying5 rfl rfl (H.onum (.succ .zero) (by omega) (by omega))) ?_ | refine WL_x (x_load Try.underlying5 rfl rfl (H.onum (.succ (.succ .zero)) (by omega) (by omega))) ?_
          refine WL_x (x_binop rfl rfl (r_eql _ _ _ _)) ?_
          refine WL_nil ?_
          refine thenE_normal ?_
          refine WC_ifd rfl (fun h30 => ?_) (fun h30 => ?_)
          · refine WC_region ?_
            refine WL_x (x_move (v := .slice _ _ _) rfl) ?_
            refine WL_x (x_loadA (n := 3) (vs := g.enc) Try.underlying34 rfl (by kernel_rfl) rfl rfl (H.rangeAll .zero rfl rfl)) ?_
            refine WL_call (vs := [.slice _ _ _, .agg (List.toArray _)]) Try.func11 rfl rfl rfl (spoil_ok _ F[k].xs F[k].A F[k].c g.how g.at_ g.mask (H.rget (c := F[k].ck) (by simp only [List.mem_cons, List.mem_map]; exact .inr (.inr ⟨F[k], hmemF, rfl⟩))) (hb _ hmemF) hg0) ?_
            rintro _ w ⟨X, cX, ys, rfl, hf, hys, hok, hfr2⟩
            refine ⟨_, rfl, ?_⟩
            replace H := H.rnew hf (row_cells hok) (fun b hb => hfr2 b (cells_fp (row_cells hok).r b hb))
            refine WL_x (x_assign (v := .slice _ _ _) rfl) ?_
            refine WL_nil ?_
            refine thenE_normal ?_
            first
              | exact ⟨(F[k].A, F[k].c, F[k].xs), by rw [if_neg h30], rfl, rfl, rfl, rfl, rfl, rfl, rfl, H.drop (List.Sublist.refl _) (by
                  intro d hd
                  simp only [List.mem_cons] at hd ⊢
                  rcases hd with rfl | hd
                  · exact .inr (.inr (List.mem_map.2 ⟨F[k], hmemF, rfl⟩))
                  · exact hd)⟩
              | exact ⟨(X, cX, ys), by rw [if_pos h30]; exact hys, rfl, rfl, rfl, rfl, rfl, rfl, rfl, H⟩
          · refine WC_skip ?_
            refine thenE_normal ?_
            first
              | exact ⟨(F[k].A, F[k].c, F[k].xs), by rw [if_neg h30], rfl, rfl, rfl, rfl, rfl, rfl, rfl, H.drop (List.Sublist.refl _) (by
                  intro d hd
                  simp only [List.mem_cons] at hd ⊢
                  rcases hd with rfl | hd
                  · exact .inr (.inr (List.mem_map.2 ⟨F[k], hmemF, rfl⟩))
                  · exact hd)⟩
              | exact ⟨(X, cX, ys), by rw [if_pos h30]; exact hys, rfl, rfl, rfl, rfl, rfl, rfl, rfl, H⟩
        · clear H
          rintro ⟨X, cX, ys⟩ f w ⟨hys, h8, h15, h14, h13, h2, h0, h7, H⟩
          simp only at hys h7 H
          rw [← upd_self h15, ← upd_self h14, ← upd_self h13, ← upd_self h2, ← upd_self h0, ← upd_self h7, ← upd_self h8]
          have hyl : ys.length = F[k].xs.length := by rw [hys]; by_cases h : g.how = 4 <;> simp [h, spoilL_length]
          have hFk := hb F[k] hmemF
          refine WC_seq ?_
          refine WC_region ?_
          refine WL_x (x_loadA (n := 3) (vs := g.enc) Try.underlying34 rfl (by kernel_rfl) rfl rfl (H.rangeAll .zero rfl rfl)) ?_
          refine WL_call (vs := [.agg (List.toArray _)]) Try.func12 rfl rfl rfl (times_ok _ g.how g.at_ g.mask) ?_
          rintro _ w ⟨T, cT, ts, rfl, hf, hts, hok, hfr3⟩
          refine ⟨_, rfl, ?_⟩
          replace H := H.new hf hok hfr3
          have htl := times_le g.how
          rw [← hts] at htl
          refine WL_x (x_len Try.underlying42 rfl) ?_
          refine WL_x (x_move (v := (.int .i64 0)) rfl) ?_
          refine WL_nil ?_
          refine thenE_normal ?_
          refine WC_block ?_
          refine WC_while (fun (j : Nat) f w' => j ≤ ts.length ∧ f 37 = .int .i64 j ∧ f 36 = .int .i64 ts.length ∧ f 35 = .slice T ts.length cT ∧ f 15 = .int .i64 k ∧ f 14 = .int .i64 F.length ∧ f 13 = .slice B F.length c1 ∧ f 2 = .slice D G.length c2 ∧ f 7 = .slice X ys.length cX ∧ (∃ A' c' news, f 0 = .pointer (some ⟨r, 0, none⟩) ∧ news.map WE.say = putSpec (F.take k) G ++ (ts.take j).map (fun n => (ys, n)) ∧ apartW news ∧ (∀ b, b ∈ (bundle news).fp → W.heap.size ≤ b) ∧ St W (wireCk r A c es).fp [row T cT 3 1 ts.length (nums .i64 ts), blk b8 g.enc 34, bundle news, blk r [.slice A' (es ++ news).length c'] 28, row A' c' 46 2 (es ++ news).length (encs WE.enc (es ++ news))] (cells X (nums .u8 ys) :: (cells B (encs BS.enc F) :: cells D (encs FT.enc G) :: F.map BS.ck)) w')) (fun j => ts.length - j) (s0 := 0) ?_ ?_
          · exact ⟨Nat.zero_le _, rfl, rfl, rfl, rfl, rfl, rfl, rfl, rfl, A', c', news, rfl, by simpa using hsay, hapn, hfr, H⟩
          · clear H
            clear hsay hapn hfr
            rintro j f w ⟨hj, h37, h36, h35, h15, h14, h13, h2, h7, A', c', news, h0, hsay, hapn, hfr, H⟩
            rw [← upd_self h37, ← upd_self h36, ← upd_self h35, ← upd_self h15, ← upd_self h14, ← upd_self h13, ← upd_self h2, ← upd_self h7, ← upd_self h0]
            refine WC_seq ?_
            refine WC_region ?_
            refine WL_x (x_binop rfl rfl (r_lss _ _ _ _)) ?_
            refine WL_nil ?_
            refine thenE_normal ?_
            refine WC_seq ?_
            refine WC_ifd rfl (fun h38 => ?_) (fun h38 => ?_)
            · have hj38 : j < ts.length := by omega
              have hsz := H.size
              have hnl : news.length ≤ 2 * k + j := by
                have h1 := congrArg List.length hsay
                have h2 := putSpec_le F G k (by omega)
                simp only [List.length_map, List.length_append, List.length_take] at h1
                omega
              refine WC_skip ?_
              refine thenE_normal ?_
              refine WC_seq ?_
              refine WC_block ?_
              refine WC_seq ?_
              refine WC_region ?_
              refine WL_x (x_indexAddr (s := 1) Try.underlying42 (by kernel_rfl) rfl rfl (by omega) (by omega) (by first | rfl | assumption | exact H.rsomen .zero (by omega) | exact H.rsomen (.succ .zero) (by omega) | exact H.rsomen (.succ (.succ .zero)) (by omega) | exact H.osomen .zero (by omega) | exact H.osomen (.succ .zero) (by omega) | exact H.osomen (.succ (.succ .zero)) (by omega)) rfl) ?_
              first | refine WL_x (x_load (v := .int .i64 _) Try.underlying3 rfl rfl (H.cellAt .zero rfl)) ?_ | refine WL_x (x_load (v := .int .i64 _) Try.underlying3 rfl rfl (H.cellAt (.succ .zero) rfl)) ?_ | refine WL_x (x_load (v := .int .i64 _) Try.underlying3 rfl rfl (H.cellAt (.succ (.succ .zero)) rfl)) ?_ | refine WL_x (x_load (v := .int .i64 _) Try.underlying3 rfl rfl (H.cellAt (.succ (.succ (.succ .zero))) rfl)) ?_ | refine WL_x (x_load (v := .int .i64 _) Try.underlying3 rfl rfl (H.cellAt (.succ (.succ (.succ (.succ .zero)))) rfl)) ?_ | refine WL_x (x_load (v := .int .i64 _) Try.underlying3 rfl rfl (H.cellAt (.succ (.succ (.succ (.succ (.succ .zero))))) rfl)) ?_ | refine WL_x (x_load (v := .int .i64 _) Try.underlying3 rfl rfl (H.cellAt (.succ (.succ (.succ (.succ (.succ (.succ .zero)))))) rfl)) ?_ | refine WL_x (x_load (v := .int .i64 _) Try.underlying3 rfl rfl (H.cellAt (.succ (.succ (.succ (.succ (.succ (.succ (.succ .zero))))))) rfl)) ?_ | refine WL_x (x_load Try.underlying3 rfl rfl (H.rnum .zero (by omega) (by omega))) ?_ | refine WL_x (x_load Try.underlying3 rfl rfl (H.rnum (.succ .zero) (by omega) (by omega))) ?_ | refine WL_x (x_load Try.underlying3 rfl rfl (H.rnum (.succ (.succ .zero)) (by omega) (by omega))) ?_ | refine WL_x (x_load Try.underlying3 rfl rfl (H.onum .zero (by omega) (by omega))) ?_ | refine WL_x (x_load Try.underlying3 rfl rfl (H.onum (.succ .zero) (by omega) (by omega))) ?_ | refine WL_x (x_load Try.underlying3 rfl rfl (H.onum (.succ (.succ .zero)) (by omega) (by omega))) ?_
              refine WL_x (x_assign (v := .int .i64 _) rfl) ?_
              refine WL_nil ?_
              refine thenE_normal ?_
              refine WC_drawS (m := 14) (listed := [false, false, false, false, false, false, false, false, false, false, false, false, false, false]) (fun w => Blk w r [.slice A' (es ++ news).length c'] 28) 13 (by kernel_rfl) rfl rfl H (fun w H => H.get (Has.mem (.succ (.succ (.succ .zero))))) ?_
              intro w H hS
              refine WG_take (i := 0) (listed' := [true, false, false, false, false, false, false, false, false, false, false, false, false, false]) rfl (by kernel_rfl) (fun w hS => x_move (v := .pointer _) rfl) hS rfl ?_
              refine WG_take (i := 1) (listed' := [true, true, false, false, false, false, false, false, false, false, false, false, false, false]) rfl (by kernel_rfl) (fun w hS => x_move (v := .pointer _) rfl) hS rfl ?_
              refine WG_take (i := 2) (listed' := [true, true, true, false, false, false, false, false, false, false, false, false, false, false]) rfl (by kernel_rfl) (fun w hS => x_nilCheck rfl) hS rfl ?_
              refine WG_take (i := 3) (listed' := [true, true, true, true, false, false, false, false, false, false, false, false, false, false]) rfl (by kernel_rfl) (fun w hS => x_fieldAddr (n := 0) (o' := 0) Try.underlying28 rfl (by kernel_rfl) rfl rfl) hS rfl ?_
              refine WG_take (i := 4) (listed' := [true, true, true, true, true, false, false, false, false, false, false, false, false, false]) rfl (by kernel_rfl) (fun w hS => x_load (v := .slice _ _ _) Try.underlying26 rfl rfl ((hS.cell 0).trans rfl)) hS rfl ?_
              refine WG_take (i := 5) (listed' := [true, true, true, true, true, true, false, false, false, false, false, false, false, false]) rfl (by kernel_rfl) (fun w hS => x_move (v := .slice _ _ _) rfl) hS rfl ?_
              refine WG_take (i := 7) (listed' := [true, true, true, true, true, true, false, true, false, false, false, false, false, false]) rfl (by kernel_rfl) (fun w hS => x_move (v := .int .i64 _) rfl) hS rfl ?_
              refine WG_mid (i := 6) (listed' := [true, true, true, true, true, true, true, true, false, false, false, false, false, false]) rfl rfl (by kernel_rfl) rfl rfl ?_
              refine WL_call (vs := [.slice _ _ _]) Try.func13 rfl rfl rfl (clone_ok _ ys X cX (H.rcells .zero) (by omega)) ?_
              rintro _ w ⟨A47, c47, rfl, hf, hok, hfr4⟩
              have hfr5 : ∀ b, b ∈ (row A47 c47 5 1 ys.length (nums .u8 ys)).fp → W.heap.size ≤ b := fun b hb => Nat.le_trans H.size (hfr4 b hb)
              refine ⟨_, rfl, ?_⟩
              replace H := H.new hf hok hfr4
              refine WL_nil ?_
              have hS := (H.get (Has.mem (.succ (.succ (.succ (.succ .zero))))) : Blk w r _ 28)
              refine mid_mk hS ?_
              refine WG_take (i := 8) (listed' := [true, true, true, true, true, true, true, true, true, false, false, false, false, false]) rfl (by kernel_rfl) (fun w hS => x_buildS (pl := [(0, 1), (1, 1)]) (zero := [(.slice none 0 0), (.int .i64 0)]) (cells := [_, _]) (vs := [(0, .slice _ _ _), (1, .int .i64 _)]) Try.underlying46 (by kernel_rfl) (by kernel_rfl) (by kernel_rfl) rfl rfl) hS rfl ?_
              refine WG_mid (i := 9) (listed' := [true, true, true, true, true, true, true, true, true, true, false, false, false, false]) rfl rfl (by kernel_rfl) rfl rfl ?_
              refine WL_buildSliceS (s := 2) (z0 := [(.slice none 0 0), (.int .i64 0)]) (zero := [(.slice none 0 0), (.int .i64 0)]) (cells := [_, _]) (vs := [(0, .agg (List.toArray _))]) Try.underlying26 (by kernel_rfl) (by kernel_rfl) rfl rfl rfl rfl H ?_
              intro b50 w H
              refine WL_nil ?_
              have hS := (H.get (Has.mem (.succ (.succ (.succ (.succ (.succ .zero)))))) : Blk w r _ 28)
              refine mid_mk hS ?_
              refine WG_mid (i := 10) (listed' := [true, true, true, true, true, true, true, true, true, true, true, false, false, false]) rfl rfl (by kernel_rfl) rfl rfl ?_
              refine WL_append (i := Try.t46) (bytes := 32) (size := 2) Try.underlying26 (by kernel_rfl) rfl rfl rfl (by kernel_rfl) rfl rfl rfl H (fun _ _ => .succ (.succ (.succ (.succ (.succ (.succ .zero)))))) (rfl) (H.bcells .zero) (by simp [Value.oneCell']) (by rw [List.length_append]; simp only [maxLen]; omega) (by rw [List.length_append]; omega) ?_
              intro A51 c51 w H
              refine WL_nil ?_
              have hS := (H.get (Has.mem (.succ (.succ (.succ (.succ (.succ .zero)))))) : Blk w r _ 28)
              refine mid_mk hS ?_
              refine WG_take (i := 11) (listed' := [true, true, true, true, true, true, true, true, true, true, true, true, false, false]) rfl (by kernel_rfl) (fun w hS => x_nilCheck rfl) hS rfl ?_
              refine WG_take (i := 12) (listed' := [true, true, true, true, true, true, true, true, true, true, true, true, true, false]) rfl (by kernel_rfl) (fun w hS => x_fieldAddr (n := 0) (o' := 0) Try.underlying28 rfl (by kernel_rfl) rfl rfl) hS rfl ?_
              refine WG_fin (listed' := [true, true, true, true, true, true, true, true, true, true, true, true, true, true]) rfl rfl (by kernel_rfl) rfl (by kernel_rfl) ?_
              first | refine WL_store (v := .slice _ _ _) Try.underlying26 rfl rfl rfl rfl (by kernel_rfl) H .zero (Nat.le_of_ble_eq_true rfl) rfl ?_ | refine WL_store (v := .slice _ _ _) Try.underlying26 rfl rfl rfl rfl (by kernel_rfl) H (.succ .zero) (Nat.le_of_ble_eq_true rfl) rfl ?_ | refine WL_store (v := .slice _ _ _) Try.underlying26 rfl rfl rfl rfl (by kernel_rfl) H (.succ (.succ .zero)) (Nat.le_of_ble_eq_true rfl) rfl ?_ | refine WL_store (v := .slice _ _ _) Try.underlying26 rfl rfl rfl rfl (by kernel_rfl) H (.succ (.succ (.succ .zero))) (Nat.le_of_ble_eq_true rfl) rfl ?_ | refine WL_store (v := .slice _ _ _) Try.underlying26 rfl rfl rfl rfl (by kernel_rfl) H (.succ (.succ (.succ (.succ .zero)))) (Nat.le_of_ble_eq_true rfl) rfl ?_ | refine WL_store (v := .slice _ _ _) Try.underlying26 rfl rfl rfl rfl (by kernel_rfl) H (.succ (.succ (.succ (.succ (.succ .zero))))) (Nat.le_of_ble_eq_true rfl) rfl ?_ | refine WL_store (v := .slice _ _ _) Try.underlying26 rfl rfl rfl rfl (by kernel_rfl) H (.succ (.succ (.succ (.succ (.succ (.succ .zero)))))) (Nat.le_of_ble_eq_true rfl) rfl ?_ | refine WL_store (v := .slice _ _ _) Try.underlying26 rfl rfl rfl rfl (by kernel_rfl) H (.succ (.succ (.succ (.succ (.succ (.succ (.succ .zero))))))) (Nat.le_of_ble_eq_true rfl) rfl ?_
              intro w H
              try simp only [List.set_cons_succ, List.set_cons_zero] at H
              refine WL_nil ?_
              refine fin_mk ?_
              refine inBlockE_normal ?_
              refine thenE_normal ?_
              refine WC_region ?_
              refine WL_x (x_binop rfl rfl (r_add_in (i64_in (by omega) (by omega)))) ?_
              refine WL_x (x_move (v := .int .i64 _) rfl) ?_
              refine WL_nil ?_
              refine thenE_normal ?_
              replace H := H.pop
              have hdis := H.fst (d := bundle news) (.succ (.succ .zero))
              replace H := H.merge (e := bundle (news ++ [⟨A47, c47, ys, nth ts j⟩])) (.succ (.succ .zero)) (fun h1 h2 => bundle_snoc (e := ⟨A47, c47, ys, nth ts j⟩) h1 h2) (by
                intro b hb
                simp only [bundle, List.flatMap_append, List.mem_append, List.flatMap_cons, List.flatMap_nil, List.append_nil] at hb
                exact hb.symm)
              refine ⟨j + 1, ⟨by omega, rfl, rfl, rfl, rfl, rfl, rfl, rfl, rfl, A51, c51, news ++ [⟨A47, c47, ys, nth ts j⟩], rfl, ?_, apart_snoc (e := ⟨A47, c47, ys, nth ts j⟩) hapn hdis, ?_, ?_⟩, by omega⟩
              · rw [List.map_append, hsay, take_succ_nth ts j hj38, List.map_append, List.append_assoc]; rfl
              · intro b hb
                simp only [bundle, List.flatMap_append, List.mem_append, List.flatMap_cons, List.flatMap_nil, List.append_nil] at hb
                rcases hb with hb | hb
                · exact hfr b hb
                · exact hfr5 b hb
              · rw [← List.append_assoc, encs_append, encs_one, List.length_append]; exact H
            · refine WC_exit ?_
              refine thenE_exit ?_
              refine thenE_exit ?_
              refine inBlockE_exit ?_
              refine inBlockE_normal ?_
              refine thenE_normal ?_
              refine WC_region ?_
              refine WL_x (x_binop rfl rfl (r_add_in (i64_in (by omega) (by omega)))) ?_
              refine WL_x (x_move (v := .int .i64 _) rfl) ?_
              refine WL_nil ?_
              refine thenE_normal ?_
              obtain rfl : j = ts.length := by omega
              rw [List.take_length] at hsay
              refine ⟨k + 1, ⟨by omega, rfl, rfl, rfl, rfl, A', c', news, rfl, ?_, hapn, hfr, (H.pop.pop).drop (List.Sublist.refl _) (fun d hd => List.mem_cons_of_mem _ hd)⟩, by omega⟩
              rw [putSpec_succ F G k hk16, hsay, ← hg]
              unfold putOne
              rw [← hts, hys]
    · refine WC_exit ?_
      refine thenE_exit ?_
      refine thenE_exit ?_
      refine inBlockE_exit ?_
      refine endn0 Try.results7 ?_
      obtain rfl : k = F.length := by omega
      rw [List.take_length] at hsay
      refine ⟨A', c', news, rfl, H.fr, hsay, hapn, (H.rot3.rot3.joinB.swap.joinB).ok _ List.mem_cons_self, hfr, ?_⟩
      intro b hb
      simp only [wireCk, both, List.mem_append] at hb
      rcases hb with hb | hb
      · exact H.own _ (Has.mem (.succ .zero)) b hb
      · exact H.own _ (Has.mem (.succ (.succ .zero))) b hb

theorem say1 {news : List WE} (x : List Int) (n : Int) (h : news.map WE.say = [(x, n)]) : ∃ A0 c0, news = [⟨A0, c0, x, n⟩] := by
  match news, h with
  | [e], h =>
    simp only [List.map_cons, List.map_nil, List.cons.injEq, and_true, WE.say, Prod.mk.injEq] at h
    obtain ⟨rfl, rfl⟩ := h
    exact ⟨e.A, e.c, rfl⟩
theorem say_cons {news : List WE} (x : List Int) (n : Int) (l : List (List Int × Int)) (h : news.map WE.say = (x, n) :: l) : ∃ A0 c0 r, news = ⟨A0, c0, x, n⟩ :: r ∧ r.map WE.say = l := by
  match news, h with
  | e :: r, h =>
    simp only [List.map_cons, List.cons.injEq, WE.say, Prod.mk.injEq] at h
    obtain ⟨⟨rfl, rfl⟩, rfl⟩ := h
    exact ⟨e.A, e.c, r, rfl, rfl⟩
theorem say_nil {news : List WE} (h : news.map WE.say = []) : news = [] := by simpa using h
theorem bundleCells {w0 w : World} {M : List Nat} {cs ro : List Ck} {es : List WE} (H : St w0 M cs ro w) (hb : bundle es ∈ cs) {e : WE} (he : e ∈ es) : Cells w e.A (nums .u8 e.xs) := owns_cells ((H.get hb : ∀ e, e ∈ es → e.ck.R w) e he)

theorem awake_ok (W : World) : Calls Try.prog 4 #[] W fun e w' => e = .returned (.bool true) ∧ Fr [] W w' := by
  have H : St W [] [] [] W := St.start [] (by simp)
  refine calls_enter (N := 40) Try.func4 rfl Try.ntmps4 rfl ?_
  refine WC_seq ?_
  refine WC_region ?_
  refine WL_x (x_assign (v := (.bool false)) rfl) ?_
  refine WL_nil ?_
  refine thenE_normal ?_
  refine WC_seq ?_
  refine WC_region ?_
  refine WL_alloc (l := [(.slice none 0 0)]) (by kernel_rfl) H ?_
  intro b1 w H
  refine WL_nil ?_
  refine thenE_normal ?_
  refine WC_seq ?_
  refine WC_region ?_
  refine WL_buildSliceS (s := 1) (z0 := [(.int .u8 0)]) (zero := [(.int .u8 0)]) (cells := [_]) (vs := [(0, (.int .u8 1))]) Try.underlying22 (by kernel_rfl) (by kernel_rfl) rfl rfl rfl rfl H ?_
  intro b4 w H
  refine WL_buildSliceS (s := 1) (z0 := [(.int .u8 0)]) (zero := [(.int .u8 0)]) (cells := [_]) (vs := [(0, (.int .u8 2))]) Try.underlying22 (by kernel_rfl) (by kernel_rfl) rfl rfl rfl rfl H ?_
  intro b5 w H
  refine WL_buildSliceS (s := 1) (z0 := [(.slice none 0 0)]) (zero := [(.slice none 0 0), (.slice none 0 0)]) (cells := [_, _]) (vs := [(0, .slice _ _ _), (1, .slice _ _ _)]) Try.underlying30 (by kernel_rfl) (by kernel_rfl) rfl rfl rfl rfl H ?_
  intro b6 w H
  refine WL_x (x_buildS (pl := [(0, 1), (1, 1), (2, 1)]) (zero := [(.int .u8 0), (.int .u16 0), (.int .u32 0)]) (cells := [_, _, _]) (vs := [(0, (.int .u8 3))]) Try.underlying34 (by kernel_rfl) (by kernel_rfl) (by kernel_rfl) rfl rfl) ?_
  refine WL_buildSliceS (s := 3) (z0 := [(.int .u8 0), (.int .u16 0), (.int .u32 0)]) (zero := [(.int .u8 0), (.int .u16 0), (.int .u32 0)]) (cells := [_, _, _]) (vs := [(0, .agg (List.toArray _))]) Try.underlying35 (by kernel_rfl) (by kernel_rfl) rfl rfl rfl rfl H ?_
  intro b8 w H
  replace H := (H.shut.shut.shut.shut.nilRow 46 2).swap.joinB
  have hput := put_ok w b1 none 0 [] [⟨some ⟨b4, 0, none⟩, 1, [1]⟩, ⟨some ⟨b5, 0, none⟩, 1, [2]⟩] [⟨3, 0, 0⟩] (some ⟨b6, 0, none⟩) (some ⟨b8, 0, none⟩) 2 1 (H.ok _ (Has.mem .zero)) (H.rbcells (T := 22) (.succ (.succ .zero)))
    (by
      intro b hb
      simp only [List.mem_cons, List.not_mem_nil, or_false] at hb
      rcases hb with rfl | rfl
      · exact H.rbcells (T := 5) .zero
      · exact H.rbcells (T := 5) (.succ .zero)) (H.rbcells (T := 34) (.succ (.succ (.succ .zero)))) (by simp)
    (fun b hb => ⟨fun h => H.apartR .zero (.succ (.succ .zero)) b hb (cells_fp_blk h), fun h => H.apartR .zero (.succ (.succ (.succ .zero))) b hb (cells_fp_blk h), by
      intro x hx
      simp only [List.mem_cons, List.not_mem_nil, or_false] at hx
      rcases hx with rfl | rfl
      · exact fun h => H.apartR .zero .zero b hb (cells_fp_blk h)
      · exact fun h => H.apartR .zero (.succ .zero) b hb (cells_fp_blk h)⟩) (by simp) (by simp) (by simp [maxLen])
  refine WL_call (vs := [.pointer (some _), .slice _ _ _, .slice _ _ _]) Try.func7 rfl rfl rfl (hput) ?_
  rintro _ w ⟨A', c', news, rfl, hf, hsay, hapn, hok, hfr, hfp⟩
  refine ⟨_, rfl, ?_⟩
  obtain ⟨A0, c0, r0, rfl, hsay2⟩ := say_cons [1] 1 [([2], 0)] hsay
  obtain ⟨A1, c1, rfl⟩ := say1 [2] 0 hsay2
  simp only [List.nil_append] at hok hfp
  replace H := (H.turn .zero hf (fun b hb => .inl hb) hok (fun b hb => by
    simp only [both, List.mem_append] at hb
    rcases hb with hb | hb
    · exact .inr (hfr b hb)
    · exact hfp b (by simpa [both] using hb))).splitB
  refine WL_nil ?_
  refine thenE_normal ?_
  refine WC_seq ?_
  refine WC_region ?_
  refine WL_call (vs := [.pointer (some _)]) Try.func8 rfl rfl rfl (take_ok _ b1 A' c' _ (H.ok _ (Has.mem (.succ .zero))) (by simp) (by simp)) ?_
  rintro _ w ⟨B10, d10, rfl, hf10, hok10, hrow10, hfr10⟩
  refine ⟨_, rfl, ?_⟩
  replace H := H.turnNew (.succ .zero) hf10 (fun b hb => .inl hb) hok10 (fun b hb => hb) hrow10 hfr10
  have e10 : outW [⟨A0, c0, [1], 1⟩, ⟨A1, c1, [2], 0⟩] = [⟨A1, c1, [2], 0⟩] := rfl
  have r10 : keepW (List.map WE.dec [⟨A0, c0, [1], 1⟩, ⟨A1, c1, [2], 0⟩]) = [⟨A0, c0, [1], 0⟩] := rfl
  rw [e10] at H ⊢
  rw [r10] at H
  refine WL_call (vs := [.pointer (some _)]) Try.func8 rfl rfl rfl (take_ok _ b1 A' c' [⟨A0, c0, [1], 0⟩] (H.ok _ (Has.mem (.succ (.succ .zero)))) (by simp) (by simp)) ?_
  rintro _ w ⟨B11, d11, rfl, hf11, hok11, hrow11, hfr11⟩
  refine ⟨_, rfl, ?_⟩
  replace H := H.turnNew (.succ (.succ .zero)) hf11 (fun b hb => .inl hb) hok11 (fun b hb => hb) hrow11 hfr11
  have e11 : outW [⟨A0, c0, [1], 0⟩] = [⟨A0, c0, [1], 0⟩] := rfl
  have r11 : keepW (List.map WE.dec [⟨A0, c0, [1], 0⟩]) = [] := rfl
  rw [e11] at H ⊢
  rw [r11] at H
  refine WL_x (x_assign (v := .slice _ _ _) rfl) ?_
  refine WL_x (x_assign (v := .slice _ _ _) rfl) ?_
  refine WL_nil ?_
  refine thenE_normal ?_
  refine WC_seq ?_
  refine WC_region ?_
  refine WL_x (x_move (v := .slice _ _ _) rfl) ?_
  refine WL_x (x_len Try.underlying30 rfl) ?_
  refine WL_x (x_binop rfl rfl (r_eql _ _ _ _)) ?_
  refine WL_x (x_move (v := .bool _) rfl) ?_
  refine WL_guard_yes rfl rfl rfl ?_
  refine WL_x (x_move (v := .slice _ _ _) rfl) ?_
  refine WL_guard_yes rfl rfl rfl ?_
  refine WL_x (x_indexAddr (s := 1) Try.underlying30 (by kernel_rfl) rfl rfl (by decide) (by simp) (H.osome (l := encs WE.hdr [⟨A1, c1, [2], 0⟩]) (.succ .zero) (by simp [encs, WE.hdr])) rfl) ?_
  refine WL_guard_yes rfl rfl rfl ?_
  refine WL_x (x_load (v := .slice A1 1 c1) Try.underlying22 rfl rfl (H.ocell (o := (0 : Int).toNat * 1) (xs := encs WE.hdr [⟨A1, c1, [2], 0⟩]) (.succ .zero) rfl)) ?_
  refine WL_guard_yes rfl rfl rfl ?_
  refine WL_x (x_indexAddr (s := 1) Try.underlying22 (by kernel_rfl) rfl rfl (by decide) (by simp) ((bundleCells H (e := ⟨A1, c1, [2], 0⟩) (Has.mem (.succ (.succ .zero))) (by simp)).some_ (by simp [nums])) rfl) ?_
  refine WL_guard_yes rfl rfl rfl ?_
  refine WL_x (x_load (v := .int .u8 2) Try.underlying5 rfl rfl ((bundleCells H (e := ⟨A1, c1, [2], 0⟩) (Has.mem (.succ (.succ .zero))) (by simp)).at_ ((0 : Int).toNat * 1) _ rfl)) ?_
  refine WL_guard_yes rfl rfl rfl ?_
  refine WL_x (x_binop rfl rfl (r_eql _ _ _ _)) ?_
  refine WL_x (x_pick (v := .bool _) rfl rfl) ?_
  refine WL_x (x_move (v := .bool _) rfl) ?_
  refine WL_guard_yes rfl rfl rfl ?_
  refine WL_x (x_move (v := .slice _ _ _) rfl) ?_
  refine WL_guard_yes rfl rfl rfl ?_
  refine WL_x (x_len Try.underlying30 rfl) ?_
  refine WL_guard_yes rfl rfl rfl ?_
  refine WL_x (x_binop rfl rfl (r_eql _ _ _ _)) ?_
  refine WL_x (x_pick (v := .bool _) rfl rfl) ?_
  refine WL_x (x_move (v := .bool _) rfl) ?_
  refine WL_guard_yes rfl rfl rfl ?_
  refine WL_x (x_move (v := .slice _ _ _) rfl) ?_
  refine WL_guard_yes rfl rfl rfl ?_
  refine WL_x (x_indexAddr (s := 1) Try.underlying30 (by kernel_rfl) rfl rfl (by decide) (by simp) (H.osome (l := encs WE.hdr [⟨A0, c0, [1], 0⟩]) .zero (by simp [encs, WE.hdr])) rfl) ?_
  refine WL_guard_yes rfl rfl rfl ?_
  refine WL_x (x_load (v := .slice A0 1 c0) Try.underlying22 rfl rfl (H.ocell (o := (0 : Int).toNat * 1) (xs := encs WE.hdr [⟨A0, c0, [1], 0⟩]) .zero rfl)) ?_
  refine WL_guard_yes rfl rfl rfl ?_
  refine WL_x (x_indexAddr (s := 1) Try.underlying22 (by kernel_rfl) rfl rfl (by decide) (by simp) ((bundleCells H (e := ⟨A0, c0, [1], 1⟩) (Has.mem (.succ (.succ .zero))) (by simp)).some_ (by simp [nums])) rfl) ?_
  refine WL_guard_yes rfl rfl rfl ?_
  refine WL_x (x_load (v := .int .u8 1) Try.underlying5 rfl rfl ((bundleCells H (e := ⟨A0, c0, [1], 1⟩) (Has.mem (.succ (.succ .zero))) (by simp)).at_ ((0 : Int).toNat * 1) _ rfl)) ?_
  refine WL_guard_yes rfl rfl rfl ?_
  refine WL_x (x_binop rfl rfl (r_eql _ _ _ _)) ?_
  refine WL_x (x_pick (v := .bool _) rfl rfl) ?_
  refine WL_x (x_move (v := .bool _) rfl) ?_
  refine WL_guard_yes rfl rfl rfl ?_
  refine WL_call (vs := [.pointer (some _)]) Try.func10 rfl rfl rfl (waiting_ok _ b1 0 c' A' (both_1 (H.ok _ (Has.mem (.succ (.succ (.succ .zero)))))).r) ?_
  rintro _ _ ⟨rfl, rfl⟩
  refine ⟨_, rfl, ?_⟩
  refine WL_guard_yes rfl rfl rfl ?_
  refine WL_x (x_binop rfl rfl (r_eql _ _ _ _)) ?_
  refine WL_x (x_pick (v := .bool _) rfl rfl) ?_
  refine WL_x (x_assign (v := .bool _) rfl) ?_
  refine WL_nil ?_
  refine thenE_normal ?_
  refine WC_ret ?_
  refine ends1 (v := .bool _) Try.results4 rfl ?_
  exact ⟨rfl, H.fr⟩

theorem put_nil (W : World) (A B : Option Addr) (n m c d : Nat) : Calls Try.prog 7 #[.pointer none, .slice A n c, .slice B m d] W fun e w' => e = .returned (.tuple #[]) ∧ Fr [] W w' := by
  have H : St W [] [] [] W := St.start [] (by simp)
  refine calls_enter (N := 56) Try.func7 rfl Try.ntmps7 rfl ?_
  refine WC_seq ?_
  refine WC_seq ?_
  refine WC_region ?_
  refine WL_x (x_move (v := .pointer _) rfl) ?_
  refine WL_x (x_ptr_eql_nil Try.underlying38 rfl rfl) ?_
  refine WL_nil ?_
  refine thenE_normal ?_
  refine WC_yes rfl ?_
  refine WC_ret ?_
  refine thenE_ret ?_
  refine ends0 Try.results7 ?_
  exact ⟨rfl, H.fr⟩

theorem take_nil (W : World) : Calls Try.prog 8 #[.pointer none] W fun e w' => e = .returned (.slice none 0 0) ∧ Fr [] W w' := by
  have H : St W [] [] [] W := St.start [] (by simp)
  refine calls_enter (N := 56) Try.func8 rfl Try.ntmps8 rfl ?_
  refine WC_seq ?_
  refine WC_region ?_
  refine WL_x (x_assign (v := (.slice none 0 0)) rfl) ?_
  refine WL_nil ?_
  refine thenE_normal ?_
  refine WC_seq ?_
  refine WC_region ?_
  refine WL_x (x_assign (v := (.slice none 0 0)) rfl) ?_
  refine WL_nil ?_
  refine thenE_normal ?_
  refine WC_seq ?_
  refine WC_seq ?_
  refine WC_region ?_
  refine WL_x (x_move (v := .pointer _) rfl) ?_
  refine WL_x (x_ptr_eql_nil Try.underlying38 rfl rfl) ?_
  refine WL_nil ?_
  refine thenE_normal ?_
  refine WC_yes rfl ?_
  refine WC_seq ?_
  refine WC_region ?_
  refine WL_x (x_assign (v := (.slice none 0 0)) rfl) ?_
  refine WL_nil ?_
  refine thenE_normal ?_
  refine WC_ret ?_
  refine thenE_ret ?_
  refine ends1 (v := .slice _ _ _) Try.results8 rfl ?_
  exact ⟨rfl, H.fr⟩

theorem waiting_nil (W : World) : Calls Try.prog 10 #[.pointer none] W fun e w' => e = .returned (.int .i64 0) ∧ Fr [] W w' := by
  have H : St W [] [] [] W := St.start [] (by simp)
  refine calls_enter (N := 10) Try.func10 rfl Try.ntmps10 rfl ?_
  refine WC_seq ?_
  refine WC_region ?_
  refine WL_x (x_assign (v := (.int .i64 0)) rfl) ?_
  refine WL_nil ?_
  refine thenE_normal ?_
  refine WC_seq ?_
  refine WC_seq ?_
  refine WC_region ?_
  refine WL_x (x_move (v := .pointer _) rfl) ?_
  refine WL_x (x_ptr_eql_nil Try.underlying38 rfl rfl) ?_
  refine WL_nil ?_
  refine thenE_normal ?_
  refine WC_yes rfl ?_
  refine WC_seq ?_
  refine WC_region ?_
  refine WL_x (x_assign (v := (.int .i64 0)) rfl) ?_
  refine WL_nil ?_
  refine thenE_normal ?_
  refine WC_ret ?_
  refine thenE_ret ?_
  refine ends1 (v := .int .i64 _) Try.results10 rfl ?_
  exact ⟨rfl, H.fr⟩

theorem bundle_cons {w : World} {e : WE} {es : List WE} (h : (bundle (e :: es)).ok w) (ha : apartW (e :: es)) : (both e.ck (bundle es)).ok w :=
  both_ok ⟨h.r e (by simp), fun b hb => h.lt b (by simp [bundle, hb])⟩ ⟨fun x hx => h.r x (by simp [hx]), fun b hb => h.lt b (by simp only [bundle, List.flatMap_cons, List.mem_append]; exact .inr hb)⟩ (by
    intro b hb hm
    obtain ⟨x, hx, hbx⟩ := List.mem_flatMap.1 hm
    exact (List.pairwise_cons.1 ha).1 x hx b hb hbx)

theorem wireOwns_ok (W : World) (xs : List Int) (A : Option Addr) (c : Nat) (hx : Cells W A (nums .u8 xs)) (hl : xs.length ≤ 140737488355328) :
    Calls Try.prog 3 #[.slice A xs.length c] W fun e w' => e = .returned (.bool true) ∧ Fr [] W w' := by
  have H : St W [] [] [cells A (nums .u8 xs)] W := St.start [] (by simp; exact cells_ok hx)
  refine calls_enter (N := 88) Try.func3 rfl Try.ntmps3 rfl ?_
  refine WC_seq ?_
  refine WC_region ?_
  refine WL_x (x_assign (v := (.bool false)) rfl) ?_
  refine WL_nil ?_
  refine thenE_normal ?_
  refine WC_seq ?_
  refine WC_seq ?_
  refine WC_region ?_
  refine WL_call (vs := []) Try.func4 rfl rfl rfl (awake_ok _) ?_
  rintro _ w ⟨rfl, hf⟩
  refine ⟨_, rfl, ?_⟩
  replace H := H.quiet hf
  refine WL_x (x_not rfl) ?_
  refine WL_nil ?_
  refine thenE_normal ?_
  refine WC_no rfl ?_
  refine WC_skip ?_
  refine thenE_normal ?_
  refine WC_seq ?_
  refine WC_region ?_
  refine WL_x (x_move (v := .slice _ _ _) rfl) ?_
  refine WL_call (vs := [.slice _ _ _, (.int .i64 20)]) Try.func5 rfl rfl rfl (cut_ok _ xs A c 20 (H.rcells .zero) hl) ?_
  rintro _ w ⟨A12, c12, rfl, hf, hok, hfr⟩
  refine ⟨_, rfl, ?_⟩
  replace H := H.new hf hok hfr
  obtain ⟨ys, hys⟩ : ∃ ys, ys = xs.take (20 : Int).toNat := ⟨_, rfl⟩
  rw [← hys] at H ⊢
  have hyl : ys.length ≤ 20 := by rw [hys, List.length_take]; simp; omega
  clear hok hfr hys
  refine WL_x (x_assign (v := .slice _ _ _) rfl) ?_
  refine WL_nil ?_
  refine thenE_normal ?_
  refine WC_seq ?_
  refine WC_region ?_
  refine WL_x (x_move (v := .slice _ _ _) rfl) ?_
  refine WL_buildSliceS (s := 1) (z0 := [(.slice none 0 0)]) (zero := [(.slice none 0 0)]) (cells := [_]) (vs := [(0, .slice _ _ _)]) Try.underlying30 (by kernel_rfl) (by kernel_rfl) rfl rfl rfl rfl H ?_
  intro b14 w H
  refine WL_call (vs := [.slice _ _ _]) Try.func6 rfl rfl rfl (join_ok _ [⟨A12, c12, ys⟩] (some ⟨b14, 0, none⟩) 1 (H.bcells (T := 22) .zero) (by
    intro b hb
    simp only [List.mem_cons, List.not_mem_nil, or_false] at hb
    subst hb
    exact H.ocells (.succ .zero)) (by simp [joinB]; omega) (by simp [maxLen])) ?_
  rintro _ w ⟨A15, c15, rfl, hf, hok, hfr⟩
  refine ⟨_, rfl, ?_⟩
  replace H := H.new hf hok hfr
  have ej : joinB [⟨A12, c12, ys⟩] = ys := by simp [joinB]
  rw [ej] at H ⊢
  clear hok hfr
  refine WL_x (x_assign (v := .slice _ _ _) rfl) ?_
  refine WL_nil ?_
  refine thenE_normal ?_
  refine WC_seq ?_
  refine WC_region ?_
  refine WL_alloc (l := [(.slice none 0 0)]) (by kernel_rfl) H ?_
  intro b4 w H
  refine WL_nil ?_
  refine thenE_normal ?_
  refine WC_seq ?_
  refine WC_region ?_
  refine WL_x (x_move (v := .slice _ _ _) rfl) ?_
  refine WL_x (x_move (v := .slice _ _ _) rfl) ?_
  refine WL_buildSliceS (s := 1) (z0 := [(.slice none 0 0)]) (zero := [(.slice none 0 0), (.slice none 0 0)]) (cells := [_, _]) (vs := [(0, .slice _ _ _), (1, .slice _ _ _)]) Try.underlying30 (by kernel_rfl) (by kernel_rfl) rfl rfl rfl rfl H ?_
  intro b18 w H
  refine WL_x (x_buildS (pl := [(0, 1), (1, 1), (2, 1)]) (zero := [(.int .u8 0), (.int .u16 0), (.int .u32 0)]) (cells := [_, _, _]) (vs := [(0, (.int .u8 2))]) Try.underlying34 (by kernel_rfl) (by kernel_rfl) (by kernel_rfl) rfl rfl) ?_
  refine WL_buildSliceS (s := 3) (z0 := [(.int .u8 0), (.int .u16 0), (.int .u32 0)]) (zero := [(.int .u8 0), (.int .u16 0), (.int .u32 0)]) (cells := [_, _, _]) (vs := [(0, .agg (List.toArray _))]) Try.underlying35 (by kernel_rfl) (by kernel_rfl) rfl rfl rfl rfl H ?_
  intro b20 w H
  replace H := (H.rot3.nilRow 46 2).swap.joinB
  have hput := put_ok w b4 none 0 [] [⟨A15, c15, ys⟩, ⟨A15, c15, ys⟩] [⟨2, 0, 0⟩] (some ⟨b18, 0, none⟩) (some ⟨b20, 0, none⟩) 2 1 (H.ok _ (Has.mem .zero)) (H.bcells (T := 22) (.succ (.succ .zero)))
    (by
      intro b hb
      simp only [List.mem_cons, List.not_mem_nil, or_false, or_self] at hb
      subst hb
      exact H.ocells (.succ (.succ (.succ .zero)))) (H.bcells (T := 34) (.succ .zero)) (by simp)
    (fun b hb => ⟨fun h => H.fst (.succ .zero) b hb (cells_fp_blk h), fun h => H.fst .zero b hb (cells_fp_blk h), by
      intro x hx
      simp only [List.mem_cons, List.not_mem_nil, or_false, or_self] at hx
      subst hx
      exact fun h => H.fst (.succ (.succ .zero)) b hb (cells_fp (H.ocells (.succ (.succ (.succ .zero)))) b h)⟩) (by simp) (by simp; omega) (by simp [maxLen])
  refine WL_call (vs := [.pointer (some _), .slice _ _ _, .slice _ _ _]) Try.func7 rfl rfl rfl (hput) ?_
  rintro _ w ⟨A', c', news, rfl, hf, hsay, hapn, hok, hfr, hfp⟩
  refine ⟨_, rfl, ?_⟩
  obtain ⟨A0, c0, r0, rfl, hsay2⟩ := say_cons ys 0 [(ys, 0), (ys, 0)] hsay
  obtain ⟨A1, c1, r1, rfl, hsay3⟩ := say_cons ys 0 [(ys, 0)] hsay2
  obtain ⟨A2, c2, rfl⟩ := say1 ys 0 hsay3
  simp only [List.nil_append] at hok hfp
  replace H := (H.turn .zero hf (fun b hb => .inl hb) hok (fun b hb => by
    simp only [both, List.mem_append] at hb
    rcases hb with hb | hb
    · exact .inr (hfr b hb)
    · exact hfp b (by simpa [both] using hb))).splitB
  clear hput hok hfp hfr hsay hsay2 hsay3
  refine WL_nil ?_
  refine thenE_normal ?_
  refine WC_seq ?_
  refine WC_seq ?_
  refine WC_region ?_
  refine WL_x (x_move (v := .slice _ _ _) rfl) ?_
  refine WL_x (x_len Try.underlying22 rfl) ?_
  refine WL_x (x_move (v := (.int .i64 0)) rfl) ?_
  refine WL_nil ?_
  refine thenE_normal ?_
  refine WC_block ?_
  refine WC_while (fun (k : Nat) f w' => k ≤ ys.length ∧ f 24 = .int .i64 k ∧ f 23 = .int .i64 ys.length ∧ f 3 = .slice A15 ys.length c15 ∧ f 0 = .slice A12 ys.length c12 ∧ f 4 = .pointer (some ⟨b4, 0, none⟩) ∧ ∃ zs : List Int, zs.length = ys.length ∧ St W [] [bundle [⟨A0, c0, ys, 0⟩, ⟨A1, c1, ys, 0⟩, ⟨A2, c2, ys, 0⟩], wireCk b4 A' c' [⟨A0, c0, ys, 0⟩, ⟨A1, c1, ys, 0⟩, ⟨A2, c2, ys, 0⟩], blk b20 [.int .u8 2, .int .u16 0, .int .u32 0] 34, blk b18 [.slice A15 ys.length c15, .slice A15 ys.length c15] 22, row A15 c15 5 1 ys.length (nums .u8 zs), blk b14 [.slice A12 ys.length c12] 22, row A12 c12 5 1 ys.length (nums .u8 ys)] [cells A (nums .u8 xs)] w') (fun k => ys.length - k) (s0 := 0) ?_ ?_
  · exact ⟨Nat.zero_le _, rfl, rfl, rfl, rfl, rfl, ys, rfl, H⟩
  · clear H
    rintro k f w ⟨hk, h24, h23, h3, h0, h4, zs, hzl, H⟩
    rw [← upd_self h24, ← upd_self h23, ← upd_self h3, ← upd_self h0, ← upd_self h4]
    refine WC_seq ?_
    refine WC_region ?_
    refine WL_x (x_binop rfl rfl (r_lss _ _ _ _)) ?_
    refine WL_nil ?_
    refine thenE_normal ?_
    refine WC_seq ?_
    first | refine WC_ifd rfl (fun h25 => ?_) (fun h25 => ?_) | refine WC_ifn rfl (fun h25 => ?_) (fun h25 => ?_) | refine WC_if rfl (fun h25 => ?_) (fun h25 => ?_)
    · refine WC_skip ?_
      refine thenE_normal ?_
      refine WC_seq ?_
      refine WC_block ?_
      refine WC_seq ?_
      refine WC_region ?_
      refine WL_x (x_move (v := .int .i64 _) rfl) ?_
      refine WL_x (x_assign (v := .int .i64 _) rfl) ?_
      refine WL_nil ?_
      refine thenE_normal ?_
      refine WC_region ?_
      refine WL_x (x_move (v := .slice _ _ _) rfl) ?_
      refine WL_x (x_move (v := .int .i64 _) rfl) ?_
      refine WL_x (x_indexAddr (s := 1) Try.underlying22 (by kernel_rfl) rfl rfl (by omega) (by omega) (by first | rfl | assumption | exact H.rsomen .zero (by omega) | exact H.rsomen (.succ .zero) (by omega) | exact H.rsomen (.succ (.succ .zero)) (by omega) | exact H.rsomen (.succ (.succ (.succ .zero))) (by omega) | exact H.rsomen (.succ (.succ (.succ (.succ .zero)))) (by omega) | exact H.osomen .zero (by omega) | exact H.osomen (.succ .zero) (by omega) | exact H.osomen (.succ (.succ .zero)) (by omega) | exact H.osomen (.succ (.succ (.succ .zero))) (by omega) | exact H.osomen (.succ (.succ (.succ (.succ .zero)))) (by omega)) rfl) ?_
      first | refine WL_x (x_load (v := .int .u8 _) Try.underlying5 rfl rfl (H.cellAt .zero rfl)) ?_ | refine WL_x (x_load (v := .int .u8 _) Try.underlying5 rfl rfl (H.cellAt (.succ .zero) rfl)) ?_ | refine WL_x (x_load (v := .int .u8 _) Try.underlying5 rfl rfl (H.cellAt (.succ (.succ .zero)) rfl)) ?_ | refine WL_x (x_load (v := .int .u8 _) Try.underlying5 rfl rfl (H.cellAt (.succ (.succ (.succ .zero))) rfl)) ?_ | refine WL_x (x_load (v := .int .u8 _) Try.underlying5 rfl rfl (H.cellAt (.succ (.succ (.succ (.succ .zero)))) rfl)) ?_ | refine WL_x (x_load Try.underlying5 rfl rfl (H.rnum .zero (by omega) (by omega))) ?_ | refine WL_x (x_load Try.underlying5 rfl rfl (H.rnum (.succ .zero) (by omega) (by omega))) ?_ | refine WL_x (x_load Try.underlying5 rfl rfl (H.rnum (.succ (.succ .zero)) (by omega) (by omega))) ?_ | refine WL_x (x_load Try.underlying5 rfl rfl (H.rnum (.succ (.succ (.succ .zero))) (by omega) (by omega))) ?_ | refine WL_x (x_load Try.underlying5 rfl rfl (H.rnum (.succ (.succ (.succ (.succ .zero)))) (by omega) (by omega))) ?_ | refine WL_x (x_load Try.underlying5 rfl rfl (H.onum .zero (by omega) (by omega))) ?_ | refine WL_x (x_load Try.underlying5 rfl rfl (H.onum (.succ .zero) (by omega) (by omega))) ?_ | refine WL_x (x_load Try.underlying5 rfl rfl (H.onum (.succ (.succ .zero)) (by omega) (by omega))) ?_ | refine WL_x (x_load Try.underlying5 rfl rfl (H.onum (.succ (.succ (.succ .zero))) (by omega) (by omega))) ?_ | refine WL_x (x_load Try.underlying5 rfl rfl (H.onum (.succ (.succ (.succ (.succ .zero)))) (by omega) (by omega))) ?_
      refine WL_x (x_binop rfl rfl (r_add _ _ _ _)) ?_
      refine WL_x (x_indexAddr (s := 1) Try.underlying22 (by kernel_rfl) rfl rfl (by omega) (by omega) (by first | rfl | assumption | exact H.rsomen .zero (by omega) | exact H.rsomen (.succ .zero) (by omega) | exact H.rsomen (.succ (.succ .zero)) (by omega) | exact H.rsomen (.succ (.succ (.succ .zero))) (by omega) | exact H.rsomen (.succ (.succ (.succ (.succ .zero)))) (by omega) | exact H.osomen .zero (by omega) | exact H.osomen (.succ .zero) (by omega) | exact H.osomen (.succ (.succ .zero)) (by omega) | exact H.osomen (.succ (.succ (.succ .zero))) (by omega) | exact H.osomen (.succ (.succ (.succ (.succ .zero)))) (by omega)) rfl) ?_
      refine WL_storeR (v := .int .u8 _) (o := k) (n := ys.length) (xs := nums .u8 zs) Try.underlying5 rfl rfl rfl rfl (by kernel_rfl) (by rw [Nat.mul_one, Int.toNat_natCast]) H (.succ (.succ (.succ (.succ .zero)))) (by rw [nums_length]; omega) (nums_set .u8 zs k _) ?_
      intro w H
      refine WL_nil ?_
      refine inBlockE_normal ?_
      refine thenE_normal ?_
      refine WC_region ?_
      refine WL_x (x_binop rfl rfl (r_add_in (i64_in (by omega) (by omega)))) ?_
      refine WL_x (x_move (v := .int .i64 _) rfl) ?_
      refine WL_nil ?_
      refine thenE_normal ?_
      exact ⟨k + 1, ⟨by omega, rfl, rfl, rfl, rfl, rfl, _, by simpa using hzl, H⟩, by omega⟩
    · refine WC_exit ?_
      refine thenE_exit ?_
      refine thenE_exit ?_
      refine inBlockE_exit ?_
      refine thenE_normal ?_
      refine WC_seq ?_
      refine WC_region ?_
      refine WL_call (vs := [.pointer (some _)]) Try.func8 rfl rfl rfl (take_ok _ b4 A' c' [⟨A0, c0, ys, 0⟩, ⟨A1, c1, ys, 0⟩, ⟨A2, c2, ys, 0⟩] (H.ok _ (Has.mem (.succ .zero))) (by simp) (by simp)) ?_
      rintro _ w ⟨B34, d34, rfl, hf, hok, hrow, hfr⟩
      refine ⟨_, rfl, ?_⟩
      replace H := H.turnNew (.succ .zero) hf (fun b hb => .inl hb) hok (fun b hb => hb) hrow hfr
      have e34 : outW [⟨A0, c0, ys, 0⟩, ⟨A1, c1, ys, 0⟩, ⟨A2, c2, ys, 0⟩] = [⟨A0, c0, ys, 0⟩, ⟨A1, c1, ys, 0⟩, ⟨A2, c2, ys, 0⟩] := rfl
      rw [e34] at H ⊢
      clear hok hrow hfr e34
      refine WL_x (x_assign (v := .slice _ _ _) rfl) ?_
      refine WL_nil ?_
      refine thenE_normal ?_
      refine WC_seq ?_
      refine WC_seq ?_
      refine WC_region ?_
      refine WL_x (x_move (v := .slice _ _ _) rfl) ?_
      refine WL_x (x_len Try.underlying30 rfl) ?_
      refine WL_x (x_binop rfl rfl (r_neq _ _ _ _)) ?_
      refine WL_x (x_move (v := .bool _) rfl) ?_
      refine WL_guard_yes rfl rfl rfl ?_
      refine WL_x (x_move (v := .slice _ _ _) rfl) ?_
      refine WL_guard_yes rfl rfl rfl ?_
      refine WL_x (x_indexAddr (s := 1) Try.underlying30 (by kernel_rfl) rfl rfl (by decide) (by simp) (H.osome (l := encs WE.hdr [⟨A0, c0, ys, 0⟩, ⟨A1, c1, ys, 0⟩, ⟨A2, c2, ys, 0⟩]) .zero (by simp [encs, WE.hdr])) rfl) ?_
      refine WL_guard_yes rfl rfl rfl ?_
      refine WL_x (x_load (v := .slice A0 ys.length c0) Try.underlying22 rfl rfl (H.ocell (o := (0 : Int).toNat * 1) (xs := encs WE.hdr [⟨A0, c0, ys, 0⟩, ⟨A1, c1, ys, 0⟩, ⟨A2, c2, ys, 0⟩]) .zero rfl)) ?_
      refine WL_guard_yes rfl rfl rfl ?_
      refine WL_x (x_move (v := .slice _ _ _) rfl) ?_
      refine WL_guard_yes rfl rfl rfl ?_
      refine WL_call (vs := [.slice _ _ _, .slice _ _ _]) Try.func9 rfl rfl rfl (same_ok _ ys ys A0 A12 c0 c12 (bundleCells H (e := ⟨A0, c0, ys, 0⟩) (Has.mem (.succ .zero)) (by simp)) (H.ocells (.succ (.succ (.succ (.succ (.succ (.succ (.succ .zero)))))))) (by simp only [maxLen]; omega)) ?_
      rintro _ w ⟨rfl, hf⟩
      refine ⟨_, rfl, ?_⟩
      replace H := H.quiet hf
      rw [show decide (ys = ys) = true from by simp]
      refine WL_guard_yes rfl rfl rfl ?_
      refine WL_x (x_not rfl) ?_
      refine WL_x (x_pick (v := .bool _) rfl rfl) ?_
      refine WL_x (x_move (v := .bool _) rfl) ?_
      refine WL_guard_yes rfl rfl rfl ?_
      refine WL_x (x_move (v := .slice _ _ _) rfl) ?_
      refine WL_guard_yes rfl rfl rfl ?_
      refine WL_x (x_indexAddr (s := 1) Try.underlying30 (by kernel_rfl) rfl rfl (by decide) (by simp) (H.osome (l := encs WE.hdr [⟨A0, c0, ys, 0⟩, ⟨A1, c1, ys, 0⟩, ⟨A2, c2, ys, 0⟩]) .zero (by simp [encs, WE.hdr])) rfl) ?_
      refine WL_guard_yes rfl rfl rfl ?_
      refine WL_x (x_load (v := .slice A2 ys.length c2) Try.underlying22 rfl rfl (H.ocell (o := (2 : Int).toNat * 1) (xs := encs WE.hdr [⟨A0, c0, ys, 0⟩, ⟨A1, c1, ys, 0⟩, ⟨A2, c2, ys, 0⟩]) .zero rfl)) ?_
      refine WL_guard_yes rfl rfl rfl ?_
      refine WL_x (x_move (v := .slice _ _ _) rfl) ?_
      refine WL_guard_yes rfl rfl rfl ?_
      refine WL_call (vs := [.slice _ _ _, .slice _ _ _]) Try.func9 rfl rfl rfl (same_ok _ ys ys A2 A12 c2 c12 (bundleCells H (e := ⟨A2, c2, ys, 0⟩) (Has.mem (.succ .zero)) (by simp)) (H.ocells (.succ (.succ (.succ (.succ (.succ (.succ (.succ .zero)))))))) (by simp only [maxLen]; omega)) ?_
      rintro _ w ⟨rfl, hf⟩
      refine ⟨_, rfl, ?_⟩
      replace H := H.quiet hf
      rw [show decide (ys = ys) = true from by simp]
      refine WL_guard_yes rfl rfl rfl ?_
      refine WL_x (x_not rfl) ?_
      refine WL_x (x_pick (v := .bool _) rfl rfl) ?_
      refine WL_nil ?_
      refine thenE_normal ?_
      refine WC_no rfl ?_
      refine WC_skip ?_
      refine thenE_normal ?_
      refine WC_seq ?_
      refine WC_seq ?_
      replace H := (H.swap.say (cs' := both (WE.ck ⟨A0, c0, ys, 0⟩) (bundle [⟨A1, c1, ys, 0⟩, ⟨A2, c2, ys, 0⟩]) :: _) .zero (fun h => bundle_cons h hapn) (by simp [both, bundle])).splitB
      replace H := H.rot3
      refine WC_region ?_
      refine WL_x (x_move (v := .slice _ _ _) rfl) ?_
      refine WL_x (x_indexAddr (s := 1) Try.underlying30 (by kernel_rfl) rfl rfl (by decide) (by simp) (H.osome (l := encs WE.hdr [⟨A0, c0, ys, 0⟩, ⟨A1, c1, ys, 0⟩, ⟨A2, c2, ys, 0⟩]) .zero (by simp [encs, WE.hdr])) rfl) ?_
      refine WL_x (x_load (v := .slice A0 ys.length c0) Try.underlying22 rfl rfl (H.ocell (o := (0 : Int).toNat * 1) (xs := encs WE.hdr [⟨A0, c0, ys, 0⟩, ⟨A1, c1, ys, 0⟩, ⟨A2, c2, ys, 0⟩]) .zero rfl)) ?_
      refine WL_x (x_len Try.underlying22 rfl) ?_
      refine WL_x (x_move (v := (.int .i64 0)) rfl) ?_
      refine WL_nil ?_
      refine thenE_normal ?_
      refine WC_block ?_
      refine WC_while (fun (k : Nat) f w' => k ≤ ys.length ∧ f 58 = .int .i64 k ∧ f 57 = .int .i64 ys.length ∧ f 6 = .slice B34 3 d34 ∧ f 0 = .slice A12 ys.length c12 ∧ ∃ zs : List Int, zs.length = ys.length ∧ St W [] [row B34 d34 22 1 3 (encs WE.hdr [⟨A0, c0, ys, 0⟩, ⟨A1, c1, ys, 0⟩, ⟨A2, c2, ys, 0⟩]), row A0 c0 5 1 ys.length (nums .u8 zs), bundle [⟨A1, c1, ys, 0⟩, ⟨A2, c2, ys, 0⟩], row A12 c12 5 1 ys.length (nums .u8 ys)] [cells A (nums .u8 xs)] w') (fun k => ys.length - k) (s0 := 0) ?_ ?_
      · refine ⟨Nat.zero_le _, rfl, rfl, rfl, rfl, ys, rfl, H.drop ?_ (fun _ h => h)⟩
        exact .cons_cons _ (.cons_cons _ (.cons_cons _ (.cons _ (.cons _ (.cons _ (.cons _ (.cons _ (.cons_cons _ .slnil))))))))
      · clear H
        rintro k f w ⟨hk, h58, h57, h6, h0, zs, hzl, H⟩
        rw [← upd_self h58, ← upd_self h57, ← upd_self h6, ← upd_self h0]
        refine WC_seq ?_
        refine WC_region ?_
        refine WL_x (x_binop rfl rfl (r_lss _ _ _ _)) ?_
        refine WL_nil ?_
        refine thenE_normal ?_
        refine WC_seq ?_
        first | refine WC_ifd rfl (fun h59 => ?_) (fun h59 => ?_) | refine WC_ifn rfl (fun h59 => ?_) (fun h59 => ?_) | refine WC_if rfl (fun h59 => ?_) (fun h59 => ?_)
        · refine WC_skip ?_
          refine thenE_normal ?_
          refine WC_seq ?_
          refine WC_block ?_
          refine WC_seq ?_
          refine WC_region ?_
          refine WL_x (x_move (v := .int .i64 _) rfl) ?_
          refine WL_x (x_assign (v := .int .i64 _) rfl) ?_
          refine WL_nil ?_
          refine thenE_normal ?_
          refine WC_region ?_
          refine WL_x (x_move (v := .slice _ _ _) rfl) ?_
          refine WL_x (x_indexAddr (s := 1) Try.underlying30 (by kernel_rfl) rfl rfl (by decide) (by simp) (H.osome (l := encs WE.hdr [⟨A0, c0, ys, 0⟩, ⟨A1, c1, ys, 0⟩, ⟨A2, c2, ys, 0⟩]) .zero (by simp [encs, WE.hdr])) rfl) ?_
          refine WL_x (x_load (v := .slice A0 ys.length c0) Try.underlying22 rfl rfl (H.ocell (o := (0 : Int).toNat * 1) (xs := encs WE.hdr [⟨A0, c0, ys, 0⟩, ⟨A1, c1, ys, 0⟩, ⟨A2, c2, ys, 0⟩]) .zero rfl)) ?_
          refine WL_x (x_move (v := .int .i64 _) rfl) ?_
          refine WL_x (x_indexAddr (s := 1) Try.underlying22 (by kernel_rfl) rfl rfl (by omega) (by omega) (by first | rfl | assumption | exact H.rsomen .zero (by omega) | exact H.rsomen (.succ .zero) (by omega) | exact H.rsomen (.succ (.succ .zero)) (by omega) | exact H.rsomen (.succ (.succ (.succ .zero))) (by omega) | exact H.rsomen (.succ (.succ (.succ (.succ .zero)))) (by omega) | exact H.osomen .zero (by omega) | exact H.osomen (.succ .zero) (by omega) | exact H.osomen (.succ (.succ .zero)) (by omega) | exact H.osomen (.succ (.succ (.succ .zero))) (by omega) | exact H.osomen (.succ (.succ (.succ (.succ .zero)))) (by omega)) rfl) ?_
          first | refine WL_x (x_load (v := .int .u8 _) Try.underlying5 rfl rfl (H.cellAt .zero rfl)) ?_ | refine WL_x (x_load (v := .int .u8 _) Try.underlying5 rfl rfl (H.cellAt (.succ .zero) rfl)) ?_ | refine WL_x (x_load (v := .int .u8 _) Try.underlying5 rfl rfl (H.cellAt (.succ (.succ .zero)) rfl)) ?_ | refine WL_x (x_load (v := .int .u8 _) Try.underlying5 rfl rfl (H.cellAt (.succ (.succ (.succ .zero))) rfl)) ?_ | refine WL_x (x_load (v := .int .u8 _) Try.underlying5 rfl rfl (H.cellAt (.succ (.succ (.succ (.succ .zero)))) rfl)) ?_ | refine WL_x (x_load Try.underlying5 rfl rfl (H.rnum .zero (by omega) (by omega))) ?_ | refine WL_x (x_load Try.underlying5 rfl rfl (H.rnum (.succ .zero) (by omega) (by omega))) ?_ | refine WL_x (x_load Try.underlying5 rfl rfl (H.rnum (.succ (.succ .zero)) (by omega) (by omega))) ?_ | refine WL_x (x_load Try.underlying5 rfl rfl (H.rnum (.succ (.succ (.succ .zero))) (by omega) (by omega))) ?_ | refine WL_x (x_load Try.underlying5 rfl rfl (H.rnum (.succ (.succ (.succ (.succ .zero)))) (by omega) (by omega))) ?_ | refine WL_x (x_load Try.underlying5 rfl rfl (H.onum .zero (by omega) (by omega))) ?_ | refine WL_x (x_load Try.underlying5 rfl rfl (H.onum (.succ .zero) (by omega) (by omega))) ?_ | refine WL_x (x_load Try.underlying5 rfl rfl (H.onum (.succ (.succ .zero)) (by omega) (by omega))) ?_ | refine WL_x (x_load Try.underlying5 rfl rfl (H.onum (.succ (.succ (.succ .zero))) (by omega) (by omega))) ?_ | refine WL_x (x_load Try.underlying5 rfl rfl (H.onum (.succ (.succ (.succ (.succ .zero)))) (by omega) (by omega))) ?_
          refine WL_x (x_binop rfl rfl (r_add _ _ _ _)) ?_
          refine WL_x (x_indexAddr (s := 1) Try.underlying22 (by kernel_rfl) rfl rfl (by omega) (by omega) (by first | rfl | assumption | exact H.rsomen .zero (by omega) | exact H.rsomen (.succ .zero) (by omega) | exact H.rsomen (.succ (.succ .zero)) (by omega) | exact H.rsomen (.succ (.succ (.succ .zero))) (by omega) | exact H.rsomen (.succ (.succ (.succ (.succ .zero)))) (by omega) | exact H.osomen .zero (by omega) | exact H.osomen (.succ .zero) (by omega) | exact H.osomen (.succ (.succ .zero)) (by omega) | exact H.osomen (.succ (.succ (.succ .zero))) (by omega) | exact H.osomen (.succ (.succ (.succ (.succ .zero)))) (by omega)) rfl) ?_
          refine WL_storeR (v := .int .u8 _) (o := k) (n := ys.length) (xs := nums .u8 zs) Try.underlying5 rfl rfl rfl rfl (by kernel_rfl) (by rw [Nat.mul_one, Int.toNat_natCast]) H (.succ .zero) (by rw [nums_length]; omega) (nums_set .u8 zs k _) ?_
          intro w H
          refine WL_nil ?_
          refine inBlockE_normal ?_
          refine thenE_normal ?_
          refine WC_region ?_
          refine WL_x (x_binop rfl rfl (r_add_in (i64_in (by omega) (by omega)))) ?_
          refine WL_x (x_move (v := .int .i64 _) rfl) ?_
          refine WL_nil ?_
          refine thenE_normal ?_
          exact ⟨k + 1, ⟨by omega, rfl, rfl, rfl, rfl, _, by simpa using hzl, H⟩, by omega⟩
        · refine WC_exit ?_
          refine thenE_exit ?_
          refine thenE_exit ?_
          refine inBlockE_exit ?_
          refine thenE_normal ?_
          refine WC_seq ?_
          refine WC_region ?_
          refine WL_x (x_assign (v := (.pointer none)) rfl) ?_
          refine WL_nil ?_
          refine thenE_normal ?_
          refine WC_seq ?_
          refine WC_region ?_
          refine WL_x (x_move (v := .pointer _) rfl) ?_
          refine WL_x (x_move (v := .slice _ _ _) rfl) ?_
          refine WL_buildSliceS (s := 1) (z0 := [(.slice none 0 0)]) (zero := [(.slice none 0 0)]) (cells := [_]) (vs := [(0, .slice _ _ _)]) Try.underlying30 (by kernel_rfl) (by kernel_rfl) rfl rfl rfl rfl H ?_
          intro b72 w H
          refine WL_call (vs := [.pointer _, .slice _ _ _, (.slice none 0 0)]) Try.func7 rfl rfl rfl (put_nil _ _ _ _ _ _ _) ?_
          rintro _ w ⟨rfl, hf⟩
          refine ⟨_, rfl, ?_⟩
          replace H := H.quiet hf
          refine WL_nil ?_
          refine thenE_normal ?_
          refine WC_seq ?_
          refine WC_region ?_
          refine WL_x (x_move (v := .slice _ _ _) rfl) ?_
          refine WL_x (x_indexAddr (s := 1) Try.underlying30 (by kernel_rfl) rfl rfl (by decide) (by simp) (H.osome (l := encs WE.hdr [⟨A0, c0, ys, 0⟩, ⟨A1, c1, ys, 0⟩, ⟨A2, c2, ys, 0⟩]) (.succ .zero) (by simp [encs, WE.hdr])) rfl) ?_
          refine WL_x (x_load (v := .slice A1 ys.length c1) Try.underlying22 rfl rfl (H.ocell (o := (1 : Int).toNat * 1) (xs := encs WE.hdr [⟨A0, c0, ys, 0⟩, ⟨A1, c1, ys, 0⟩, ⟨A2, c2, ys, 0⟩]) (.succ .zero) rfl)) ?_
          refine WL_x (x_move (v := .slice _ _ _) rfl) ?_
          refine WL_call (vs := [.slice _ _ _, .slice _ _ _]) Try.func9 rfl rfl rfl (same_ok _ ys ys A1 A12 c1 c12 (bundleCells H (e := ⟨A1, c1, ys, 0⟩) (Has.mem (.succ (.succ (.succ .zero)))) (by simp)) (H.ocells (.succ (.succ (.succ (.succ .zero))))) (by simp only [maxLen]; omega)) ?_
          rintro _ w ⟨rfl, hf⟩
          refine ⟨_, rfl, ?_⟩
          replace H := H.quiet hf
          rw [show decide (ys = ys) = true from by simp]
          refine WL_x (x_move (v := .bool _) rfl) ?_
          refine WL_guard_yes rfl rfl rfl ?_
          refine WL_x (x_move (v := .pointer _) rfl) ?_
          refine WL_guard_yes rfl rfl rfl ?_
          refine WL_call (vs := [.pointer _]) Try.func8 rfl rfl rfl (take_nil _) ?_
          rintro _ w ⟨rfl, hf⟩
          refine ⟨_, rfl, ?_⟩
          replace H := H.quiet hf
          refine WL_guard_yes rfl rfl rfl ?_
          refine WL_x (x_len Try.underlying30 rfl) ?_
          refine WL_guard_yes rfl rfl rfl ?_
          refine WL_x (x_move (v := .pointer _) rfl) ?_
          refine WL_guard_yes rfl rfl rfl ?_
          refine WL_call (vs := [.pointer _]) Try.func10 rfl rfl rfl (waiting_nil _) ?_
          rintro _ w ⟨rfl, hf⟩
          refine ⟨_, rfl, ?_⟩
          replace H := H.quiet hf
          refine WL_guard_yes rfl rfl rfl ?_
          refine WL_x (x_binop rfl rfl (r_add_in (i64_in (by omega) (by omega)))) ?_
          refine WL_guard_yes rfl rfl rfl ?_
          refine WL_x (x_binop rfl rfl (r_eql _ _ _ _)) ?_
          refine WL_x (x_pick (v := .bool _) rfl rfl) ?_
          refine WL_x (x_assign (v := .bool _) rfl) ?_
          refine WL_nil ?_
          refine thenE_normal ?_
          refine WC_ret ?_
          refine ends1 (v := .bool _) Try.results3 rfl ?_
          exact ⟨rfl, H.fr⟩
end Go.Proofs.Ytpbjppdcpcejbaa
