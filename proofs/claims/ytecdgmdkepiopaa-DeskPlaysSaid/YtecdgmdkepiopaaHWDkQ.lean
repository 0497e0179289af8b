import Derived.Test.YtecdgmdkepiopaaHWDkF
import Derived.Test.YtecdgmdkepiopaaHWDkR
set_option linter.unusedSimpArgs false
set_option linter.unusedVariables false
set_option linter.unusedSectionVars false
namespace Go.Proofs.Ytecdgmdkepiopaa
open Go Go.HW Go.RowKit
attribute [local irreducible] WL WC WG wpList Code.wp

set_option maxHeartbeats 2000000 in
theorem own_ok (W : World) (g : Gm) (A B : Option Addr) (ca cb : Nat) (hx : Cells W A (encs Cel.enc g.cells)) (hy : Cells W B (encs Cd.enc g.code)) (h1 : g.cells.length ≤ 1000) (h2 : g.code.length ≤ 1000) :
    Calls Try.prog 19 #[.agg (g.val A ca B cb).toArray] W fun e w' => ∃ A' ca' B' cb', e = .returned (.agg (g.val A' ca' B' cb').toArray) ∧ Fr [] W w' ∧ (∀ c, c ∈ gameR g A' B' → c.ok w') ∧ ∀ c, c ∈ gameR g A' B' → ∀ x, x ∈ c.fp → W.heap.size ≤ x := by
  have H : St W [] [] [Go.HW.cells A (encs Cel.enc g.cells), Go.HW.cells B (encs Cd.enc g.code)] W := St.start [] (by simp; exact ⟨cells_ok hx, cells_ok hy⟩)
  refine calls_enter (N := 62) Try.func19 rfl Try.ntmps19 rfl ?_
  refine WC_seq ?_
  refine WC_region ?_
  refine WL_box (v := .agg (List.toArray _)) rfl rfl H ?_
  clear H; intro b1 w H
  refine WL_alloc (l := [(.int .i64 0), (.int .i64 0), (.int .u32 0), (.int .u32 0), (.slice none 0 0), (.slice none 0 0)]) (by kernel_rfl) H ?_
  clear H; intro b2 w H
  refine WL_nil ?_
  refine thenE_normal ?_
  refine WC_seq ?_
  refine WC_region ?_
  refine WL_x (x_fieldAddr (n := 0) (o' := 0) Try.underlying26 rfl (by kernel_rfl) rfl rfl) ?_
  first | refine WL_x (x_load (v := .int .i64 _) Try.underlying3 rfl rfl (H.cellAt .zero rfl)) ?_ | refine WL_x (x_load (v := .int .i64 _) Try.underlying3 rfl rfl (H.cellAt (.succ .zero) rfl)) ?_ | refine WL_x (x_load (v := .int .i64 _) Try.underlying3 rfl rfl (H.cellAt (.succ (.succ .zero)) rfl)) ?_ | refine WL_x (x_load (v := .int .i64 _) Try.underlying3 rfl rfl (H.cellAt (.succ (.succ (.succ .zero))) rfl)) ?_ | refine WL_x (x_load (v := .int .i64 _) Try.underlying3 rfl rfl (H.cellAt (.succ (.succ (.succ (.succ .zero)))) rfl)) ?_ | refine WL_x (x_load Try.underlying3 rfl rfl (H.rnum .zero (by omega) (by omega))) ?_ | refine WL_x (x_load Try.underlying3 rfl rfl (H.rnum (.succ .zero) (by omega) (by omega))) ?_ | refine WL_x (x_load Try.underlying3 rfl rfl (H.rnum (.succ (.succ .zero)) (by omega) (by omega))) ?_ | refine WL_x (x_load Try.underlying3 rfl rfl (H.onum .zero (by omega) (by omega))) ?_ | refine WL_x (x_load Try.underlying3 rfl rfl (H.onum (.succ .zero) (by omega) (by omega))) ?_ | refine WL_x (x_load Try.underlying3 rfl rfl (H.onum (.succ (.succ .zero)) (by omega) (by omega))) ?_
  refine WL_x (x_fieldAddr (n := 0) (o' := 1) Try.underlying26 rfl (by kernel_rfl) rfl rfl) ?_
  first | refine WL_x (x_load (v := .int .i64 _) Try.underlying3 rfl rfl (H.cellAt .zero rfl)) ?_ | refine WL_x (x_load (v := .int .i64 _) Try.underlying3 rfl rfl (H.cellAt (.succ .zero) rfl)) ?_ | refine WL_x (x_load (v := .int .i64 _) Try.underlying3 rfl rfl (H.cellAt (.succ (.succ .zero)) rfl)) ?_ | refine WL_x (x_load (v := .int .i64 _) Try.underlying3 rfl rfl (H.cellAt (.succ (.succ (.succ .zero))) rfl)) ?_ | refine WL_x (x_load (v := .int .i64 _) Try.underlying3 rfl rfl (H.cellAt (.succ (.succ (.succ (.succ .zero)))) rfl)) ?_ | refine WL_x (x_load Try.underlying3 rfl rfl (H.rnum .zero (by omega) (by omega))) ?_ | refine WL_x (x_load Try.underlying3 rfl rfl (H.rnum (.succ .zero) (by omega) (by omega))) ?_ | refine WL_x (x_load Try.underlying3 rfl rfl (H.rnum (.succ (.succ .zero)) (by omega) (by omega))) ?_ | refine WL_x (x_load Try.underlying3 rfl rfl (H.onum .zero (by omega) (by omega))) ?_ | refine WL_x (x_load Try.underlying3 rfl rfl (H.onum (.succ .zero) (by omega) (by omega))) ?_ | refine WL_x (x_load Try.underlying3 rfl rfl (H.onum (.succ (.succ .zero)) (by omega) (by omega))) ?_
  refine WL_x (x_fieldAddr (n := 0) (o' := 2) Try.underlying26 rfl (by kernel_rfl) rfl rfl) ?_
  first | refine WL_x (x_load (v := .int .u32 _) Try.underlying22 rfl rfl (H.cellAt .zero rfl)) ?_ | refine WL_x (x_load (v := .int .u32 _) Try.underlying22 rfl rfl (H.cellAt (.succ .zero) rfl)) ?_ | refine WL_x (x_load (v := .int .u32 _) Try.underlying22 rfl rfl (H.cellAt (.succ (.succ .zero)) rfl)) ?_ | refine WL_x (x_load (v := .int .u32 _) Try.underlying22 rfl rfl (H.cellAt (.succ (.succ (.succ .zero))) rfl)) ?_ | refine WL_x (x_load (v := .int .u32 _) Try.underlying22 rfl rfl (H.cellAt (.succ (.succ (.succ (.succ .zero)))) rfl)) ?_ | refine WL_x (x_load Try.underlying22 rfl rfl (H.rnum .zero (by omega) (by omega))) ?_ | refine WL_x (x_load Try.underlying22 rfl rfl (H.rnum (.succ .zero) (by omega) (by omega))) ?_ | refine WL_x (x_load Try.underlying22 rfl rfl (H.rnum (.succ (.succ .zero)) (by omega) (by omega))) ?_ | refine WL_x (x_load Try.underlying22 rfl rfl (H.onum .zero (by omega) (by omega))) ?_ | refine WL_x (x_load Try.underlying22 rfl rfl (H.onum (.succ .zero) (by omega) (by omega))) ?_ | refine WL_x (x_load Try.underlying22 rfl rfl (H.onum (.succ (.succ .zero)) (by omega) (by omega))) ?_
  refine WL_x (x_fieldAddr (n := 0) (o' := 3) Try.underlying26 rfl (by kernel_rfl) rfl rfl) ?_
  first | refine WL_x (x_load (v := .int .u32 _) Try.underlying22 rfl rfl (H.cellAt .zero rfl)) ?_ | refine WL_x (x_load (v := .int .u32 _) Try.underlying22 rfl rfl (H.cellAt (.succ .zero) rfl)) ?_ | refine WL_x (x_load (v := .int .u32 _) Try.underlying22 rfl rfl (H.cellAt (.succ (.succ .zero)) rfl)) ?_ | refine WL_x (x_load (v := .int .u32 _) Try.underlying22 rfl rfl (H.cellAt (.succ (.succ (.succ .zero))) rfl)) ?_ | refine WL_x (x_load (v := .int .u32 _) Try.underlying22 rfl rfl (H.cellAt (.succ (.succ (.succ (.succ .zero)))) rfl)) ?_ | refine WL_x (x_load Try.underlying22 rfl rfl (H.rnum .zero (by omega) (by omega))) ?_ | refine WL_x (x_load Try.underlying22 rfl rfl (H.rnum (.succ .zero) (by omega) (by omega))) ?_ | refine WL_x (x_load Try.underlying22 rfl rfl (H.rnum (.succ (.succ .zero)) (by omega) (by omega))) ?_ | refine WL_x (x_load Try.underlying22 rfl rfl (H.onum .zero (by omega) (by omega))) ?_ | refine WL_x (x_load Try.underlying22 rfl rfl (H.onum (.succ .zero) (by omega) (by omega))) ?_ | refine WL_x (x_load Try.underlying22 rfl rfl (H.onum (.succ (.succ .zero)) (by omega) (by omega))) ?_
  refine WL_x (x_buildS (pl := [(0, 1), (1, 1), (2, 1), (3, 1), (4, 1), (5, 1)]) (zero := [(.int .i64 0), (.int .i64 0), (.int .u32 0), (.int .u32 0), (.slice none 0 0), (.slice none 0 0)]) (cells := [_, _, _, _, _, _]) (vs := [(0, .int .i64 _), (1, .int .i64 _), (2, .int .u32 _), (3, .int .u32 _)]) Try.underlying49 (by kernel_rfl) (by kernel_rfl) (by kernel_rfl) rfl rfl) ?_
  refine WL_alloc (l := [(.int .i64 0), (.int .i64 0), (.int .u32 0), (.int .u32 0), (.slice none 0 0), (.slice none 0 0)]) (by kernel_rfl) H ?_
  clear H; intro b3 w H
  first | refine WL_storeA rfl rfl rfl (by kernel_rfl) H .zero (Nat.le_of_ble_eq_true rfl) (splice_all _ _ rfl) ?_ | refine WL_storeA rfl rfl rfl (by kernel_rfl) H (.succ .zero) (Nat.le_of_ble_eq_true rfl) (splice_all _ _ rfl) ?_ | refine WL_storeA rfl rfl rfl (by kernel_rfl) H (.succ (.succ .zero)) (Nat.le_of_ble_eq_true rfl) (splice_all _ _ rfl) ?_ | refine WL_storeA rfl rfl rfl (by kernel_rfl) H (.succ (.succ (.succ .zero))) (Nat.le_of_ble_eq_true rfl) (splice_all _ _ rfl) ?_ | refine WL_storeA rfl rfl rfl (by kernel_rfl) H (.succ (.succ (.succ (.succ .zero)))) (Nat.le_of_ble_eq_true rfl) (splice_all _ _ rfl) ?_
  clear H; intro w H
  refine WL_nil ?_
  refine thenE_normal ?_
  refine WC_seq ?_
  refine WC_seq ?_
  refine WC_region ?_
  refine WL_x (x_fieldAddr (n := 0) (o' := 4) Try.underlying26 rfl (by kernel_rfl) rfl rfl) ?_
  first | refine WL_x (x_load (v := .slice _ _ _) Try.underlying23 rfl rfl (H.cellAt .zero rfl)) ?_ | refine WL_x (x_load (v := .slice _ _ _) Try.underlying23 rfl rfl (H.cellAt (.succ .zero) rfl)) ?_ | refine WL_x (x_load (v := .slice _ _ _) Try.underlying23 rfl rfl (H.cellAt (.succ (.succ .zero)) rfl)) ?_ | refine WL_x (x_load (v := .slice _ _ _) Try.underlying23 rfl rfl (H.cellAt (.succ (.succ (.succ .zero))) rfl)) ?_ | refine WL_x (x_load (v := .slice _ _ _) Try.underlying23 rfl rfl (H.cellAt (.succ (.succ (.succ (.succ .zero)))) rfl)) ?_
  refine WL_x (x_len Try.underlying23 rfl) ?_
  refine WL_x (x_move (v := (.int .i64 0)) rfl) ?_
  refine WL_nil ?_
  refine thenE_normal ?_
  refine WC_block ?_
  refine WC_while (fun (s : Nat × Option Addr × Nat) f w' => s.1 ≤ g.cells.length ∧ f 20 = .int .i64 s.1 ∧ f 19 = .int .i64 g.cells.length ∧ f 18 = .slice A g.cells.length ca ∧ f 1 = .pointer (some ⟨b1, 0, none⟩) ∧ f 2 = .pointer (some ⟨b2, 0, none⟩) ∧ f 3 = .pointer (some ⟨b3, 0, none⟩) ∧ ∃ z, z.length = 6 ∧ St W [] [row s.2.1 s.2.2 77 2 s.1 (encs Cel.enc (g.cells.take s.1)), blk b3 [.int .i64 g.obs, .int .i64 g.pl, .int .u32 g.moves, .int .u32 g.dflt, .slice s.2.1 s.1 s.2.2, .slice none 0 0] 49, blk b2 z 49, blk b1 (g.val A ca B cb) 26] [Go.HW.cells A (encs Cel.enc g.cells), Go.HW.cells B (encs Cd.enc g.code)] w') (fun s => g.cells.length - s.1) (s0 := (0, none, 0)) ?_ ?_
  · exact ⟨Nat.zero_le _, rfl, rfl, rfl, rfl, rfl, rfl, _, rfl, H.nilRow 77 2⟩
  · clear H
    rintro ⟨k, A1, c1⟩ f w ⟨hk, h20, h19, h18, hf1, hf2, hf3, z, hz, H⟩
    simp only at hk h20 h19 h18 H
    rw [← upd_self h20, ← upd_self h19, ← upd_self h18, ← upd_self hf1, ← upd_self hf2, ← upd_self hf3]
    refine WC_seq ?_
    refine WC_region ?_
    refine WL_x (x_binop rfl rfl (r_lss _ _ _ _)) ?_
    refine WL_nil ?_
    refine thenE_normal ?_
    refine WC_seq ?_
    refine WC_ifd rfl (fun h21 => ?_) (fun h21 => ?_)
    · have hk21 : k < g.cells.length := by omega
      refine WC_skip ?_
      refine thenE_normal ?_
      refine WC_seq ?_
      refine WC_block ?_
      refine WC_seq ?_
      refine WC_region ?_
      refine WL_x (x_indexAddr (s := 2) Try.underlying23 (by kernel_rfl) rfl rfl (by omega) (by omega) (H.rsome (l := encs Cel.enc g.cells) .zero (by rw [encs_length Cel.enc Cel.len]; omega)) rfl) ?_
      refine WL_x (x_loadA (n := 2) (vs := (g.cells[k]).enc) Try.underlying64 rfl (by kernel_rfl) rfl rfl (H.rrange (k := 2) .zero (by rw [Int.toNat_natCast]; exact encs_get Cel.enc Cel.len g.cells k hk21))) ?_
      refine WL_alloc (l := [(.int .i32 0), (.int .u32 0)]) (by kernel_rfl) H ?_
      clear H; intro b5 w H
      first | refine WL_storeA rfl rfl rfl (by kernel_rfl) H .zero (Nat.le_of_ble_eq_true rfl) (splice_all _ _ rfl) ?_ | refine WL_storeA rfl rfl rfl (by kernel_rfl) H (.succ .zero) (Nat.le_of_ble_eq_true rfl) (splice_all _ _ rfl) ?_ | refine WL_storeA rfl rfl rfl (by kernel_rfl) H (.succ (.succ .zero)) (Nat.le_of_ble_eq_true rfl) (splice_all _ _ rfl) ?_ | refine WL_storeA rfl rfl rfl (by kernel_rfl) H (.succ (.succ (.succ .zero))) (Nat.le_of_ble_eq_true rfl) (splice_all _ _ rfl) ?_ | refine WL_storeA rfl rfl rfl (by kernel_rfl) H (.succ (.succ (.succ (.succ .zero)))) (Nat.le_of_ble_eq_true rfl) (splice_all _ _ rfl) ?_
      clear H; intro w H
      refine WL_nil ?_
      refine thenE_normal ?_
      refine WC_region ?_
      refine WL_x (x_fieldAddr (n := 0) (o' := 4) Try.underlying49 rfl (by kernel_rfl) rfl rfl) ?_
      first | refine WL_x (x_load (v := .slice _ _ _) Try.underlying46 rfl rfl (H.cellAt .zero rfl)) ?_ | refine WL_x (x_load (v := .slice _ _ _) Try.underlying46 rfl rfl (H.cellAt (.succ .zero) rfl)) ?_ | refine WL_x (x_load (v := .slice _ _ _) Try.underlying46 rfl rfl (H.cellAt (.succ (.succ .zero)) rfl)) ?_ | refine WL_x (x_load (v := .slice _ _ _) Try.underlying46 rfl rfl (H.cellAt (.succ (.succ (.succ .zero))) rfl)) ?_ | refine WL_x (x_load (v := .slice _ _ _) Try.underlying46 rfl rfl (H.cellAt (.succ (.succ (.succ (.succ .zero)))) rfl)) ?_
      refine WL_x (x_fieldAddr (n := 0) (o' := 0) Try.underlying64 rfl (by kernel_rfl) rfl rfl) ?_
      first | refine WL_x (x_load (v := .int .i32 _) Try.underlying21 rfl rfl (H.cellAt .zero rfl)) ?_ | refine WL_x (x_load (v := .int .i32 _) Try.underlying21 rfl rfl (H.cellAt (.succ .zero) rfl)) ?_ | refine WL_x (x_load (v := .int .i32 _) Try.underlying21 rfl rfl (H.cellAt (.succ (.succ .zero)) rfl)) ?_ | refine WL_x (x_load (v := .int .i32 _) Try.underlying21 rfl rfl (H.cellAt (.succ (.succ (.succ .zero))) rfl)) ?_ | refine WL_x (x_load (v := .int .i32 _) Try.underlying21 rfl rfl (H.cellAt (.succ (.succ (.succ (.succ .zero)))) rfl)) ?_ | refine WL_x (x_load Try.underlying21 rfl rfl (H.rnum .zero (by omega) (by omega))) ?_ | refine WL_x (x_load Try.underlying21 rfl rfl (H.rnum (.succ .zero) (by omega) (by omega))) ?_ | refine WL_x (x_load Try.underlying21 rfl rfl (H.rnum (.succ (.succ .zero)) (by omega) (by omega))) ?_ | refine WL_x (x_load Try.underlying21 rfl rfl (H.onum .zero (by omega) (by omega))) ?_ | refine WL_x (x_load Try.underlying21 rfl rfl (H.onum (.succ .zero) (by omega) (by omega))) ?_ | refine WL_x (x_load Try.underlying21 rfl rfl (H.onum (.succ (.succ .zero)) (by omega) (by omega))) ?_
      refine WL_x (x_fieldAddr (n := 0) (o' := 1) Try.underlying64 rfl (by kernel_rfl) rfl rfl) ?_
      first | refine WL_x (x_load (v := .int .u32 _) Try.underlying62 rfl rfl (H.cellAt .zero rfl)) ?_ | refine WL_x (x_load (v := .int .u32 _) Try.underlying62 rfl rfl (H.cellAt (.succ .zero) rfl)) ?_ | refine WL_x (x_load (v := .int .u32 _) Try.underlying62 rfl rfl (H.cellAt (.succ (.succ .zero)) rfl)) ?_ | refine WL_x (x_load (v := .int .u32 _) Try.underlying62 rfl rfl (H.cellAt (.succ (.succ (.succ .zero))) rfl)) ?_ | refine WL_x (x_load (v := .int .u32 _) Try.underlying62 rfl rfl (H.cellAt (.succ (.succ (.succ (.succ .zero)))) rfl)) ?_ | refine WL_x (x_load Try.underlying62 rfl rfl (H.rnum .zero (by omega) (by omega))) ?_ | refine WL_x (x_load Try.underlying62 rfl rfl (H.rnum (.succ .zero) (by omega) (by omega))) ?_ | refine WL_x (x_load Try.underlying62 rfl rfl (H.rnum (.succ (.succ .zero)) (by omega) (by omega))) ?_ | refine WL_x (x_load Try.underlying62 rfl rfl (H.onum .zero (by omega) (by omega))) ?_ | refine WL_x (x_load Try.underlying62 rfl rfl (H.onum (.succ .zero) (by omega) (by omega))) ?_ | refine WL_x (x_load Try.underlying62 rfl rfl (H.onum (.succ (.succ .zero)) (by omega) (by omega))) ?_
      refine WL_x (x_buildS (pl := [(0, 1), (1, 1)]) (zero := [(.int .i32 0), (.int .u32 0)]) (cells := [_, _]) (vs := [(0, .int .i32 _), (1, .int .u32 _)]) Try.underlying77 (by kernel_rfl) (by kernel_rfl) (by kernel_rfl) rfl rfl) ?_
      refine WL_buildSliceS (s := 2) (z0 := [(.int .i32 0), (.int .u32 0)]) (zero := [(.int .i32 0), (.int .u32 0)]) (cells := (g.cells[k]).enc) (vs := [(0, .agg (List.toArray _))]) Try.underlying46 (by kernel_rfl) (by kernel_rfl) rfl rfl rfl rfl H ?_
      clear H; intro b31 w H
      refine WL_append (i := Try.t77) (bytes := 8) (size := 2) Try.underlying46 (by kernel_rfl) rfl rfl rfl (by kernel_rfl) rfl rfl rfl H (fun _ _ => .succ (.succ .zero)) (rfl) (blk_cells (H.get (Has.mem .zero))) (Cel.one _) (by simp only [maxLen]; omega) (by omega) ?_
      clear H; intro A32 c32 w H
      replace H := H.pop
      refine WL_x (x_fieldAddr (n := 0) (o' := 4) Try.underlying49 rfl (by kernel_rfl) rfl rfl) ?_
      refine WL_store (v := .slice A32 (k + 1) c32) (l' := [.int .i64 g.obs, .int .i64 g.pl, .int .u32 g.moves, .int .u32 g.dflt, .slice A32 (k + 1) c32, .slice none 0 0]) Try.underlying46 rfl rfl rfl rfl (by kernel_rfl) H (.succ (.succ .zero)) (Nat.le_of_ble_eq_true rfl) rfl ?_
      clear H; intro w H
      refine WL_nil ?_
      refine inBlockE_normal ?_
      refine thenE_normal ?_
      refine WC_region ?_
      refine WL_x (x_binop rfl rfl (r_add_in (i64_in (by omega) (by omega)))) ?_
      refine WL_x (x_move (v := .int .i64 _) rfl) ?_
      refine WL_nil ?_
      refine thenE_normal ?_
      refine ⟨(k + 1, A32, c32), ⟨by simp only; omega, by simp [upd], rfl, rfl, rfl, rfl, rfl, z, hz, ?_⟩, by simp only; omega⟩
      simp only
      rw [List.take_succ_eq_append_getElem hk21, encs_append, encs_one]
      exact H.pop
    · obtain rfl : k = g.cells.length := by omega
      rw [List.take_length] at H
      refine WC_exit ?_
      refine thenE_exit ?_
      refine thenE_exit ?_
      refine inBlockE_exit ?_
      refine thenE_normal ?_
      refine WC_seq ?_
      refine WC_seq ?_
      refine WC_region ?_
      refine WL_x (x_fieldAddr (n := 0) (o' := 5) Try.underlying26 rfl (by kernel_rfl) rfl rfl) ?_
      first | refine WL_x (x_load (v := .slice _ _ _) Try.underlying24 rfl rfl (H.cellAt .zero rfl)) ?_ | refine WL_x (x_load (v := .slice _ _ _) Try.underlying24 rfl rfl (H.cellAt (.succ .zero) rfl)) ?_ | refine WL_x (x_load (v := .slice _ _ _) Try.underlying24 rfl rfl (H.cellAt (.succ (.succ .zero)) rfl)) ?_ | refine WL_x (x_load (v := .slice _ _ _) Try.underlying24 rfl rfl (H.cellAt (.succ (.succ (.succ .zero))) rfl)) ?_ | refine WL_x (x_load (v := .slice _ _ _) Try.underlying24 rfl rfl (H.cellAt (.succ (.succ (.succ (.succ .zero)))) rfl)) ?_
      refine WL_x (x_len Try.underlying24 rfl) ?_
      refine WL_x (x_move (v := (.int .i64 0)) rfl) ?_
      refine WL_nil ?_
      refine thenE_normal ?_
      refine WC_block ?_
      refine WC_while (fun (s : Nat × Option Addr × Nat) f w' => s.1 ≤ g.code.length ∧ f 38 = .int .i64 s.1 ∧ f 37 = .int .i64 g.code.length ∧ f 36 = .slice B g.code.length cb ∧ f 2 = .pointer (some ⟨b2, 0, none⟩) ∧ f 3 = .pointer (some ⟨b3, 0, none⟩) ∧ St W [] [row s.2.1 s.2.2 81 6 s.1 (encs Cd.enc (g.code.take s.1)), row A1 c1 77 2 g.cells.length (encs Cel.enc g.cells), blk b3 [.int .i64 g.obs, .int .i64 g.pl, .int .u32 g.moves, .int .u32 g.dflt, .slice A1 g.cells.length c1, .slice s.2.1 s.1 s.2.2] 49, blk b2 z 49, blk b1 (g.val A ca B cb) 26] [Go.HW.cells A (encs Cel.enc g.cells), Go.HW.cells B (encs Cd.enc g.code)] w') (fun s => g.code.length - s.1) (s0 := (0, none, 0)) ?_ ?_
      · exact ⟨Nat.zero_le _, rfl, rfl, rfl, rfl, rfl, H.nilRow 81 6⟩
      · clear H
        rintro ⟨k, A2, c2⟩ f w ⟨hk, h38, h37, h36, hf2, hf3, H⟩
        simp only at hk h38 h37 h36 H
        rw [← upd_self h38, ← upd_self h37, ← upd_self h36, ← upd_self hf2, ← upd_self hf3]
        refine WC_seq ?_
        refine WC_region ?_
        refine WL_x (x_binop rfl rfl (r_lss _ _ _ _)) ?_
        refine WL_nil ?_
        refine thenE_normal ?_
        refine WC_seq ?_
        refine WC_ifd rfl (fun h39 => ?_) (fun h39 => ?_)
        · have hk39 : k < g.code.length := by omega
          refine WC_skip ?_
          refine thenE_normal ?_
          refine WC_seq ?_
          refine WC_block ?_
          refine WC_seq ?_
          refine WC_region ?_
          refine WL_x (x_indexAddr (s := 6) Try.underlying24 (by kernel_rfl) rfl rfl (by omega) (by omega) (H.rsome (l := encs Cd.enc g.code) (.succ .zero) (by rw [encs_length Cd.enc Cd.len]; omega)) rfl) ?_
          refine WL_x (x_loadA (n := 6) (vs := (g.code[k]).enc) Try.underlying79 rfl (by kernel_rfl) rfl rfl (H.rrange (k := 6) (.succ .zero) (by rw [Int.toNat_natCast]; exact encs_get Cd.enc Cd.len g.code k hk39))) ?_
          refine WL_alloc (l := [(.int .u8 0), (.int .u8 0), (.int .u8 0), (.int .u8 0), (.int .i32 0), (.int .u32 0)]) (by kernel_rfl) H ?_
          clear H; intro b7 w H
          first | refine WL_storeA rfl rfl rfl (by kernel_rfl) H .zero (Nat.le_of_ble_eq_true rfl) (splice_all _ _ rfl) ?_ | refine WL_storeA rfl rfl rfl (by kernel_rfl) H (.succ .zero) (Nat.le_of_ble_eq_true rfl) (splice_all _ _ rfl) ?_ | refine WL_storeA rfl rfl rfl (by kernel_rfl) H (.succ (.succ .zero)) (Nat.le_of_ble_eq_true rfl) (splice_all _ _ rfl) ?_ | refine WL_storeA rfl rfl rfl (by kernel_rfl) H (.succ (.succ (.succ .zero))) (Nat.le_of_ble_eq_true rfl) (splice_all _ _ rfl) ?_ | refine WL_storeA rfl rfl rfl (by kernel_rfl) H (.succ (.succ (.succ (.succ .zero)))) (Nat.le_of_ble_eq_true rfl) (splice_all _ _ rfl) ?_
          clear H; intro w H
          refine WL_nil ?_
          refine thenE_normal ?_
          refine WC_region ?_
          refine WL_x (x_fieldAddr (n := 0) (o' := 5) Try.underlying49 rfl (by kernel_rfl) rfl rfl) ?_
          first | refine WL_x (x_load (v := .slice _ _ _) Try.underlying47 rfl rfl (H.cellAt .zero rfl)) ?_ | refine WL_x (x_load (v := .slice _ _ _) Try.underlying47 rfl rfl (H.cellAt (.succ .zero) rfl)) ?_ | refine WL_x (x_load (v := .slice _ _ _) Try.underlying47 rfl rfl (H.cellAt (.succ (.succ .zero)) rfl)) ?_ | refine WL_x (x_load (v := .slice _ _ _) Try.underlying47 rfl rfl (H.cellAt (.succ (.succ (.succ .zero))) rfl)) ?_ | refine WL_x (x_load (v := .slice _ _ _) Try.underlying47 rfl rfl (H.cellAt (.succ (.succ (.succ (.succ .zero)))) rfl)) ?_
          refine WL_x (x_fieldAddr (n := 0) (o' := 0) Try.underlying79 rfl (by kernel_rfl) rfl rfl) ?_
          first | refine WL_x (x_load (v := .int .u8 _) Try.underlying5 rfl rfl (H.cellAt .zero rfl)) ?_ | refine WL_x (x_load (v := .int .u8 _) Try.underlying5 rfl rfl (H.cellAt (.succ .zero) rfl)) ?_ | refine WL_x (x_load (v := .int .u8 _) Try.underlying5 rfl rfl (H.cellAt (.succ (.succ .zero)) rfl)) ?_ | refine WL_x (x_load (v := .int .u8 _) Try.underlying5 rfl rfl (H.cellAt (.succ (.succ (.succ .zero))) rfl)) ?_ | refine WL_x (x_load (v := .int .u8 _) Try.underlying5 rfl rfl (H.cellAt (.succ (.succ (.succ (.succ .zero)))) rfl)) ?_ | refine WL_x (x_load Try.underlying5 rfl rfl (H.rnum .zero (by omega) (by omega))) ?_ | refine WL_x (x_load Try.underlying5 rfl rfl (H.rnum (.succ .zero) (by omega) (by omega))) ?_ | refine WL_x (x_load Try.underlying5 rfl rfl (H.rnum (.succ (.succ .zero)) (by omega) (by omega))) ?_ | refine WL_x (x_load Try.underlying5 rfl rfl (H.onum .zero (by omega) (by omega))) ?_ | refine WL_x (x_load Try.underlying5 rfl rfl (H.onum (.succ .zero) (by omega) (by omega))) ?_ | refine WL_x (x_load Try.underlying5 rfl rfl (H.onum (.succ (.succ .zero)) (by omega) (by omega))) ?_
          refine WL_x (x_fieldAddr (n := 0) (o' := 1) Try.underlying79 rfl (by kernel_rfl) rfl rfl) ?_
          first | refine WL_x (x_load (v := .int .u8 _) Try.underlying5 rfl rfl (H.cellAt .zero rfl)) ?_ | refine WL_x (x_load (v := .int .u8 _) Try.underlying5 rfl rfl (H.cellAt (.succ .zero) rfl)) ?_ | refine WL_x (x_load (v := .int .u8 _) Try.underlying5 rfl rfl (H.cellAt (.succ (.succ .zero)) rfl)) ?_ | refine WL_x (x_load (v := .int .u8 _) Try.underlying5 rfl rfl (H.cellAt (.succ (.succ (.succ .zero))) rfl)) ?_ | refine WL_x (x_load (v := .int .u8 _) Try.underlying5 rfl rfl (H.cellAt (.succ (.succ (.succ (.succ .zero)))) rfl)) ?_ | refine WL_x (x_load Try.underlying5 rfl rfl (H.rnum .zero (by omega) (by omega))) ?_ | refine WL_x (x_load Try.underlying5 rfl rfl (H.rnum (.succ .zero) (by omega) (by omega))) ?_ | refine WL_x (x_load Try.underlying5 rfl rfl (H.rnum (.succ (.succ .zero)) (by omega) (by omega))) ?_ | refine WL_x (x_load Try.underlying5 rfl rfl (H.onum .zero (by omega) (by omega))) ?_ | refine WL_x (x_load Try.underlying5 rfl rfl (H.onum (.succ .zero) (by omega) (by omega))) ?_ | refine WL_x (x_load Try.underlying5 rfl rfl (H.onum (.succ (.succ .zero)) (by omega) (by omega))) ?_
          refine WL_x (x_fieldAddr (n := 0) (o' := 2) Try.underlying79 rfl (by kernel_rfl) rfl rfl) ?_
          first | refine WL_x (x_load (v := .int .u8 _) Try.underlying5 rfl rfl (H.cellAt .zero rfl)) ?_ | refine WL_x (x_load (v := .int .u8 _) Try.underlying5 rfl rfl (H.cellAt (.succ .zero) rfl)) ?_ | refine WL_x (x_load (v := .int .u8 _) Try.underlying5 rfl rfl (H.cellAt (.succ (.succ .zero)) rfl)) ?_ | refine WL_x (x_load (v := .int .u8 _) Try.underlying5 rfl rfl (H.cellAt (.succ (.succ (.succ .zero))) rfl)) ?_ | refine WL_x (x_load (v := .int .u8 _) Try.underlying5 rfl rfl (H.cellAt (.succ (.succ (.succ (.succ .zero)))) rfl)) ?_ | refine WL_x (x_load Try.underlying5 rfl rfl (H.rnum .zero (by omega) (by omega))) ?_ | refine WL_x (x_load Try.underlying5 rfl rfl (H.rnum (.succ .zero) (by omega) (by omega))) ?_ | refine WL_x (x_load Try.underlying5 rfl rfl (H.rnum (.succ (.succ .zero)) (by omega) (by omega))) ?_ | refine WL_x (x_load Try.underlying5 rfl rfl (H.onum .zero (by omega) (by omega))) ?_ | refine WL_x (x_load Try.underlying5 rfl rfl (H.onum (.succ .zero) (by omega) (by omega))) ?_ | refine WL_x (x_load Try.underlying5 rfl rfl (H.onum (.succ (.succ .zero)) (by omega) (by omega))) ?_
          refine WL_x (x_fieldAddr (n := 0) (o' := 3) Try.underlying79 rfl (by kernel_rfl) rfl rfl) ?_
          first | refine WL_x (x_load (v := .int .u8 _) Try.underlying5 rfl rfl (H.cellAt .zero rfl)) ?_ | refine WL_x (x_load (v := .int .u8 _) Try.underlying5 rfl rfl (H.cellAt (.succ .zero) rfl)) ?_ | refine WL_x (x_load (v := .int .u8 _) Try.underlying5 rfl rfl (H.cellAt (.succ (.succ .zero)) rfl)) ?_ | refine WL_x (x_load (v := .int .u8 _) Try.underlying5 rfl rfl (H.cellAt (.succ (.succ (.succ .zero))) rfl)) ?_ | refine WL_x (x_load (v := .int .u8 _) Try.underlying5 rfl rfl (H.cellAt (.succ (.succ (.succ (.succ .zero)))) rfl)) ?_ | refine WL_x (x_load Try.underlying5 rfl rfl (H.rnum .zero (by omega) (by omega))) ?_ | refine WL_x (x_load Try.underlying5 rfl rfl (H.rnum (.succ .zero) (by omega) (by omega))) ?_ | refine WL_x (x_load Try.underlying5 rfl rfl (H.rnum (.succ (.succ .zero)) (by omega) (by omega))) ?_ | refine WL_x (x_load Try.underlying5 rfl rfl (H.onum .zero (by omega) (by omega))) ?_ | refine WL_x (x_load Try.underlying5 rfl rfl (H.onum (.succ .zero) (by omega) (by omega))) ?_ | refine WL_x (x_load Try.underlying5 rfl rfl (H.onum (.succ (.succ .zero)) (by omega) (by omega))) ?_
          refine WL_x (x_fieldAddr (n := 0) (o' := 4) Try.underlying79 rfl (by kernel_rfl) rfl rfl) ?_
          first | refine WL_x (x_load (v := .int .i32 _) Try.underlying21 rfl rfl (H.cellAt .zero rfl)) ?_ | refine WL_x (x_load (v := .int .i32 _) Try.underlying21 rfl rfl (H.cellAt (.succ .zero) rfl)) ?_ | refine WL_x (x_load (v := .int .i32 _) Try.underlying21 rfl rfl (H.cellAt (.succ (.succ .zero)) rfl)) ?_ | refine WL_x (x_load (v := .int .i32 _) Try.underlying21 rfl rfl (H.cellAt (.succ (.succ (.succ .zero))) rfl)) ?_ | refine WL_x (x_load (v := .int .i32 _) Try.underlying21 rfl rfl (H.cellAt (.succ (.succ (.succ (.succ .zero)))) rfl)) ?_ | refine WL_x (x_load Try.underlying21 rfl rfl (H.rnum .zero (by omega) (by omega))) ?_ | refine WL_x (x_load Try.underlying21 rfl rfl (H.rnum (.succ .zero) (by omega) (by omega))) ?_ | refine WL_x (x_load Try.underlying21 rfl rfl (H.rnum (.succ (.succ .zero)) (by omega) (by omega))) ?_ | refine WL_x (x_load Try.underlying21 rfl rfl (H.onum .zero (by omega) (by omega))) ?_ | refine WL_x (x_load Try.underlying21 rfl rfl (H.onum (.succ .zero) (by omega) (by omega))) ?_ | refine WL_x (x_load Try.underlying21 rfl rfl (H.onum (.succ (.succ .zero)) (by omega) (by omega))) ?_
          refine WL_x (x_fieldAddr (n := 0) (o' := 5) Try.underlying79 rfl (by kernel_rfl) rfl rfl) ?_
          first | refine WL_x (x_load (v := .int .u32 _) Try.underlying62 rfl rfl (H.cellAt .zero rfl)) ?_ | refine WL_x (x_load (v := .int .u32 _) Try.underlying62 rfl rfl (H.cellAt (.succ .zero) rfl)) ?_ | refine WL_x (x_load (v := .int .u32 _) Try.underlying62 rfl rfl (H.cellAt (.succ (.succ .zero)) rfl)) ?_ | refine WL_x (x_load (v := .int .u32 _) Try.underlying62 rfl rfl (H.cellAt (.succ (.succ (.succ .zero))) rfl)) ?_ | refine WL_x (x_load (v := .int .u32 _) Try.underlying62 rfl rfl (H.cellAt (.succ (.succ (.succ (.succ .zero)))) rfl)) ?_ | refine WL_x (x_load Try.underlying62 rfl rfl (H.rnum .zero (by omega) (by omega))) ?_ | refine WL_x (x_load Try.underlying62 rfl rfl (H.rnum (.succ .zero) (by omega) (by omega))) ?_ | refine WL_x (x_load Try.underlying62 rfl rfl (H.rnum (.succ (.succ .zero)) (by omega) (by omega))) ?_ | refine WL_x (x_load Try.underlying62 rfl rfl (H.onum .zero (by omega) (by omega))) ?_ | refine WL_x (x_load Try.underlying62 rfl rfl (H.onum (.succ .zero) (by omega) (by omega))) ?_ | refine WL_x (x_load Try.underlying62 rfl rfl (H.onum (.succ (.succ .zero)) (by omega) (by omega))) ?_
          refine WL_x (x_buildS (pl := [(0, 1), (1, 1), (2, 1), (3, 1), (4, 1), (5, 1)]) (zero := [(.int .u8 0), (.int .u8 0), (.int .u8 0), (.int .u8 0), (.int .i32 0), (.int .u32 0)]) (cells := [_, _, _, _, _, _]) (vs := [(0, .int .u8 _), (1, .int .u8 _), (2, .int .u8 _), (3, .int .u8 _), (4, .int .i32 _), (5, .int .u32 _)]) Try.underlying81 (by kernel_rfl) (by kernel_rfl) (by kernel_rfl) rfl rfl) ?_
          refine WL_buildSliceS (s := 6) (z0 := [(.int .u8 0), (.int .u8 0), (.int .u8 0), (.int .u8 0), (.int .i32 0), (.int .u32 0)]) (zero := [(.int .u8 0), (.int .u8 0), (.int .u8 0), (.int .u8 0), (.int .i32 0), (.int .u32 0)]) (cells := (g.code[k]).enc) (vs := [(0, .agg (List.toArray _))]) Try.underlying47 (by kernel_rfl) (by kernel_rfl) rfl rfl rfl rfl H ?_
          clear H; intro b57 w H
          refine WL_append (i := Try.t81) (bytes := 12) (size := 6) Try.underlying47 (by kernel_rfl) rfl rfl rfl (by kernel_rfl) rfl rfl rfl H (fun _ _ => .succ (.succ .zero)) (rfl) (blk_cells (H.get (Has.mem .zero))) (Cd.one _) (by simp only [maxLen]; omega) (by omega) ?_
          clear H; intro A58 c58 w H
          replace H := H.pop
          refine WL_x (x_fieldAddr (n := 0) (o' := 5) Try.underlying49 rfl (by kernel_rfl) rfl rfl) ?_
          refine WL_store (v := .slice A58 (k + 1) c58) (l' := [.int .i64 g.obs, .int .i64 g.pl, .int .u32 g.moves, .int .u32 g.dflt, .slice A1 g.cells.length c1, .slice A58 (k + 1) c58]) Try.underlying47 rfl rfl rfl rfl (by kernel_rfl) H (.succ (.succ (.succ .zero))) (Nat.le_of_ble_eq_true rfl) rfl ?_
          clear H; intro w H
          refine WL_nil ?_
          refine inBlockE_normal ?_
          refine thenE_normal ?_
          refine WC_region ?_
          refine WL_x (x_binop rfl rfl (r_add_in (i64_in (by omega) (by omega)))) ?_
          refine WL_x (x_move (v := .int .i64 _) rfl) ?_
          refine WL_nil ?_
          refine thenE_normal ?_
          refine ⟨(k + 1, A58, c58), ⟨by simp only; omega, by simp [upd], rfl, rfl, rfl, rfl, ?_⟩, by simp only; omega⟩
          simp only
          rw [List.take_succ_eq_append_getElem hk39, encs_append, encs_one]
          exact H.pop
        · obtain rfl : k = g.code.length := by omega
          rw [List.take_length] at H
          refine WC_exit ?_
          refine thenE_exit ?_
          refine thenE_exit ?_
          refine inBlockE_exit ?_
          refine thenE_normal ?_
          refine WC_seq ?_
          refine WC_region ?_
          refine WL_x (x_loadA (n := 6) (vs := g.val A1 c1 A2 c2) Try.underlying49 rfl (by kernel_rfl) rfl rfl (H.rangeAll (.succ (.succ .zero)) rfl rfl)) ?_
          refine WL_storeA rfl rfl rfl (by kernel_rfl) H (.succ (.succ (.succ .zero))) (by rw [hz]; exact Nat.le_of_ble_eq_true rfl) (splice_all _ _ (by rw [hz]; rfl)) ?_
          clear H; intro w H
          refine WL_nil ?_
          refine thenE_normal ?_
          refine WC_ret ?_
          refine endsR (rs := [.cell 2 49]) (vs := [.agg (g.val A1 c1 A2 c2).toArray]) Try.results19 ?_ ?_
          · exact .cons (.agg (n := 6) (vs := g.val A1 c1 A2 c2) rfl Try.underlying49 rfl (by kernel_rfl) rfl (H.rangeAll (.succ (.succ (.succ .zero))) rfl rfl)) .nil
          have Ha := H.ok _ (Has.mem (.succ .zero))
          have Hb := H.ok _ (Has.mem .zero)
          refine ⟨A1, c1, A2, c2, rfl, H.fr, ?_, ?_⟩
          · intro c hc
            simp only [gameR, List.mem_cons, List.not_mem_nil, or_false] at hc
            rcases hc with rfl | rfl
            · exact row_cells Ha
            · exact row_cells Hb
          · intro c hc
            simp only [gameR, List.mem_cons, List.not_mem_nil, or_false] at hc
            rcases hc with rfl | rfl
            · exact cells_fresh (owns_cells Ha.r) fun b hb => (H.own _ (Has.mem (.succ .zero)) b hb).resolve_left (by simp)
            · exact cells_fresh (owns_cells Hb.r) fun b hb => (H.own _ (Has.mem .zero) b hb).resolve_left (by simp)

structure Mv where
  p : Int
  t : Int
  m : Int
instance : Inhabited Mv := ⟨⟨0, 0, 0⟩⟩
def Mv.enc (x : Mv) : List Value := [.int .i64 x.p, .int .u32 x.t, .int .u32 x.m]
theorem Mv.len (x : Mv) : x.enc.length = 3 := rfl
theorem Mv.one (x : Mv) : ∀ v, v ∈ x.enc → v.oneCell' = true := by
  intro v hv; simp [Mv.enc] at hv; rcases hv with rfl | rfl | rfl <;> rfl
def Mv.is (p t : Int) (x : Mv) : Bool := decide (x.p = p) && decide (x.t = t)
def lookL (L : List Mv) (p t : Int) : Option Int := (L.find? (Mv.is p t)).map (·.m)
theorem lookL_at {L : List Mv} {p t : Int} {k : Nat} (hk : k < L.length) (h : ∀ m, m ∈ L.take k → m.is p t = false) (h2 : (L[k]).is p t = true) : lookL L p t = some (L[k]).m := by
  unfold lookL
  have e : L = L.take k ++ L[k] :: L.drop (k + 1) := by simp
  have e2 : L.find? (Mv.is p t) = some L[k] := by
    conv => lhs; rw [e]
    rw [List.find?_append, List.find?_eq_none.2 (fun m hm => by simp [h m hm]), List.find?_cons, h2]
    simp
  rw [e2]; rfl
theorem lookL_none {L : List Mv} {p t : Int} (h : ∀ m, m ∈ L → m.is p t = false) : lookL L p t = none := by
  unfold lookL
  rw [List.find?_eq_none.2 (fun m hm => by simp [h m hm])]; rfl
def gvD (g : Gm) (A : Option Addr) (ca : Nat) (B : Option Addr) (cb : Nat) (AL : Option Addr) (cL n : Nat) (tick : Int) : List Value := [.int .i64 g.obs, .int .i64 g.pl, .int .u32 g.moves, .int .u32 g.dflt, .slice A g.cells.length ca, .slice B g.code.length cb, .slice AL n cL, .int .u32 tick]
/-- the reference's desk -/
def refc (x : Nat) (g : Gm) (A : Option Addr) (ca : Nat) (B : Option Addr) (cb : Nat) (AL : Option Addr) (cL : Nat) (L : List Mv) (tick : Int) : Ck :=
  both (blk x (gvD g A ca B cb AL cL L.length tick) 53) (row AL cL 85 3 L.length (encs Mv.enc L))

theorem at_ok (W : World) (x : Nat) (g : Gm) (A B : Option Addr) (ca cb : Nat) (AL : Option Addr) (cL : Nat) (L : List Mv) (tick : Int) (p t : Int) (h : (refc x g A ca B cb AL cL L tick).ok W) (hl : L.length ≤ 1000) :
    Calls Try.prog 31 #[.pointer (some ⟨x, 0, none⟩), .int .i64 p, .int .u32 t] W fun e w' => ∃ r : Int, e = .returned (.int .i64 r) ∧ Fr (refc x g A ca B cb AL cL L tick).fp W w' ∧ (refc x g A ca B cb AL cL L tick).ok w' ∧ ((r = -1 ∧ lookL L p t = none) ∨ ∃ (k : Nat) (hk : k < L.length), r = k ∧ lookL L p t = some (L[k]).m) := by
  have H : St W (refc x g A ca B cb AL cL L tick).fp [blk x (gvD g A ca B cb AL cL L.length tick) 53, row AL cL 85 3 (L).length (encs Mv.enc L)] [] W := (St.one h).splitB
  refine calls_enter (N := 31) Try.func31 rfl Try.ntmps31 rfl ?_
  refine WC_seq ?_
  refine WC_region ?_
  refine WL_x (x_assign (v := (.int .i64 0)) rfl) ?_
  refine WL_nil ?_
  refine thenE_normal ?_
  refine WC_seq ?_
  refine WC_seq ?_
  refine WC_region ?_
  refine WL_x (x_move (v := .pointer _) rfl) ?_
  refine WL_x (x_nilCheck rfl) ?_
  refine WL_x (x_fieldAddr (n := 0) (o' := 6) Try.underlying53 rfl (by kernel_rfl) rfl rfl) ?_
  first | refine WL_x (x_load (v := .slice _ _ _) Try.underlying51 rfl rfl (H.cellAt .zero rfl)) ?_ | refine WL_x (x_load (v := .slice _ _ _) Try.underlying51 rfl rfl (H.cellAt (.succ .zero) rfl)) ?_ | refine WL_x (x_load (v := .slice _ _ _) Try.underlying51 rfl rfl (H.cellAt (.succ (.succ .zero)) rfl)) ?_ | refine WL_x (x_load (v := .slice _ _ _) Try.underlying51 rfl rfl (H.cellAt (.succ (.succ (.succ .zero))) rfl)) ?_ | refine WL_x (x_load (v := .slice _ _ _) Try.underlying51 rfl rfl (H.cellAt (.succ (.succ (.succ (.succ .zero)))) rfl)) ?_
  refine WL_x (x_len Try.underlying51 rfl) ?_
  refine WL_x (x_move (v := (.int .i64 0)) rfl) ?_
  refine WL_nil ?_
  refine thenE_normal ?_
  refine WC_block ?_
  refine WC_while (fun (k : Nat) f w' => k ≤ L.length ∧ (∀ m, m ∈ L.take k → m.is p t = false) ∧ f 14 = .int .i64 k ∧ f 13 = .int .i64 L.length ∧ f 12 = .slice AL L.length cL ∧ f 1 = .int .i64 p ∧ f 2 = .int .u32 t ∧ St W (refc x g A ca B cb AL cL L tick).fp [blk x (gvD g A ca B cb AL cL L.length tick) 53, row AL cL 85 3 (L).length (encs Mv.enc L)] [] w') (fun k => L.length - k) (s0 := 0) ?_ ?_
  · exact ⟨Nat.zero_le _, by simp, rfl, rfl, rfl, rfl, rfl, H⟩
  · clear H
    rintro k f w ⟨hk, hno, h14, h13, h12, h1, h2, H⟩
    rw [← upd_self h14, ← upd_self h13, ← upd_self h12, ← upd_self h1, ← upd_self h2]
    refine WC_seq ?_
    refine WC_region ?_
    refine WL_x (x_binop rfl rfl (r_lss _ _ _ _)) ?_
    refine WL_nil ?_
    refine thenE_normal ?_
    refine WC_seq ?_
    refine WC_ifd rfl (fun h15 => ?_) (fun h15 => ?_)
    · have hk15 : k < L.length := by omega
      refine WC_skip ?_
      refine thenE_normal ?_
      refine WC_seq ?_
      refine WC_block ?_
      refine WC_seq ?_
      refine WC_region ?_
      refine WL_x (x_move (v := .int .i64 _) rfl) ?_
      refine WL_x (x_indexAddr (s := 3) Try.underlying51 (by kernel_rfl) rfl rfl (by omega) (by omega) (H.osome (l := encs Mv.enc L) (.succ .zero) (by rw [encs_length Mv.enc Mv.len]; omega)) rfl) ?_
      refine WL_x (x_loadA (n := 3) (vs := (L[k]).enc) Try.underlying85 rfl (by kernel_rfl) rfl rfl (H.orange (k := 3) (.succ .zero) (by rw [Int.toNat_natCast]; exact encs_get Mv.enc Mv.len L k hk15))) ?_
      refine WL_alloc (l := [(.int .i64 0), (.int .u32 0), (.int .u32 0)]) (by kernel_rfl) H ?_
      clear H; intro b8 w H
      refine WL_x (x_assign (v := .int .i64 _) rfl) ?_
      first | refine WL_storeA rfl rfl rfl (by kernel_rfl) H .zero (Nat.le_of_ble_eq_true rfl) (splice_all _ _ rfl) ?_ | refine WL_storeA rfl rfl rfl (by kernel_rfl) H (.succ .zero) (Nat.le_of_ble_eq_true rfl) (splice_all _ _ rfl) ?_ | refine WL_storeA rfl rfl rfl (by kernel_rfl) H (.succ (.succ .zero)) (Nat.le_of_ble_eq_true rfl) (splice_all _ _ rfl) ?_ | refine WL_storeA rfl rfl rfl (by kernel_rfl) H (.succ (.succ (.succ .zero))) (Nat.le_of_ble_eq_true rfl) (splice_all _ _ rfl) ?_ | refine WL_storeA rfl rfl rfl (by kernel_rfl) H (.succ (.succ (.succ (.succ .zero)))) (Nat.le_of_ble_eq_true rfl) (splice_all _ _ rfl) ?_
      clear H; intro w H
      refine WL_nil ?_
      refine thenE_normal ?_
      refine WC_seq ?_
      refine WC_region ?_
      refine WL_x (x_fieldAddr (n := 0) (o' := 0) Try.underlying85 rfl (by kernel_rfl) rfl rfl) ?_
      refine WL_x (x_load (v := .int .i64 _) Try.underlying3 rfl rfl (H.cellAt (l := (L[k]).enc) .zero rfl)) ?_
      refine WL_x (x_move (v := .int .i64 _) rfl) ?_
      refine WL_x (x_binop rfl rfl (r_eql _ _ _ _)) ?_
      refine WL_x (x_move (v := .bool _) rfl) ?_
      first | refine WL_cased (t := 23) rfl (fun h23 => ?_) (fun h23 => ?_) | refine WL_casen (t := 23) rfl (fun h23 => ?_) (fun h23 => ?_) | refine WL_case (t := 23) rfl (fun h23 => ?_) (fun h23 => ?_)
      · refine WL_guard_yes rfl rfl rfl ?_
        refine WL_x (x_fieldAddr (n := 0) (o' := 1) Try.underlying85 rfl (by kernel_rfl) rfl rfl) ?_
        refine WL_guard_yes rfl rfl rfl ?_
        refine WL_x (x_load (v := .int .u32 _) Try.underlying22 rfl rfl (H.cellAt (l := (L[k]).enc) .zero rfl)) ?_
        refine WL_guard_yes rfl rfl rfl ?_
        refine WL_x (x_move (v := .int .u32 _) rfl) ?_
        refine WL_guard_yes rfl rfl rfl ?_
        refine WL_x (x_binop rfl rfl (r_eql _ _ _ _)) ?_
        refine WL_x (x_pick (v := .bool _) rfl rfl) ?_
        refine WL_nil ?_
        refine thenE_normal ?_
        refine WC_ifd rfl (fun h28 => ?_) (fun h28 => ?_)
        · have hR := lookL_at hk15 hno (by unfold Mv.is; rw [decide_eq_true h23, decide_eq_true h28]; rfl)
          refine WC_seq ?_
          refine WC_region ?_
          refine WL_x (x_move (v := .int .i64 _) rfl) ?_
          refine WL_x (x_assign (v := .int .i64 _) rfl) ?_
          refine WL_nil ?_
          refine thenE_normal ?_
          refine WC_ret ?_
          refine inBlockE_ret ?_
          refine thenE_ret ?_
          refine thenE_ret ?_
          refine inBlockE_ret ?_
          refine thenE_ret ?_
          refine ends1 (v := .int .i64 _) Try.results31 rfl ?_
          first
            | exact ⟨_, rfl, H.fr, H.joinB.ok _ List.mem_cons_self, .inl ⟨rfl, hR⟩⟩
            | exact ⟨_, rfl, H.fr, H.pop.joinB.ok _ List.mem_cons_self, .inr ⟨k, hk15, rfl, hR⟩⟩
        · have his : (L[k]).is p t = false := by unfold Mv.is; rw [decide_eq_false h28, Bool.and_false]
          refine WC_skip ?_
          refine inBlockE_normal ?_
          refine thenE_normal ?_
          refine WC_region ?_
          refine WL_x (x_binop rfl rfl (r_add_in (i64_in (by omega) (by omega)))) ?_
          refine WL_x (x_move (v := .int .i64 _) rfl) ?_
          refine WL_nil ?_
          refine thenE_normal ?_
          refine ⟨k + 1, ⟨by omega, fun m hm => ?_, rfl, rfl, rfl, rfl, rfl, H.pop⟩, by omega⟩
          rw [List.take_succ_eq_append_getElem hk15, List.mem_append] at hm
          rcases hm with hm | hm
          · exact hno m hm
          · simp at hm; subst hm; exact his
      · have his : (L[k]).is p t = false := by unfold Mv.is; rw [decide_eq_false h23]; rfl
        refine WL_guard_no rfl rfl rfl ?_
        refine WL_guard_no rfl rfl rfl ?_
        refine WL_guard_no rfl rfl rfl ?_
        refine WL_guard_no rfl rfl rfl ?_
        refine WL_x (x_pick (v := .bool _) rfl rfl) ?_
        refine WL_nil ?_
        refine thenE_normal ?_
        refine WC_no rfl ?_
        refine WC_skip ?_
        refine inBlockE_normal ?_
        refine thenE_normal ?_
        refine WC_region ?_
        refine WL_x (x_binop rfl rfl (r_add_in (i64_in (by omega) (by omega)))) ?_
        refine WL_x (x_move (v := .int .i64 _) rfl) ?_
        refine WL_nil ?_
        refine thenE_normal ?_
        refine ⟨k + 1, ⟨by omega, fun m hm => ?_, rfl, rfl, rfl, rfl, rfl, H.pop⟩, by omega⟩
        rw [List.take_succ_eq_append_getElem hk15, List.mem_append] at hm
        rcases hm with hm | hm
        · exact hno m hm
        · simp at hm; subst hm; exact his
    · have hR := lookL_none (L := L) (p := p) (t := t) (by rw [List.take_of_length_le (by omega)] at hno; exact hno)
      refine WC_exit ?_
      refine thenE_exit ?_
      refine thenE_exit ?_
      refine inBlockE_exit ?_
      refine thenE_normal ?_
      refine WC_seq ?_
      refine WC_region ?_
      refine WL_x (x_assign (v := (.int .i64 (-1))) rfl) ?_
      refine WL_nil ?_
      refine thenE_normal ?_
      refine WC_ret ?_
      refine ends1 (v := .int .i64 _) Try.results31 rfl ?_
      first
        | exact ⟨_, rfl, H.fr, H.joinB.ok _ List.mem_cons_self, .inl ⟨rfl, hR⟩⟩
        | exact ⟨_, rfl, H.fr, H.pop.joinB.ok _ List.mem_cons_self, .inr ⟨k, hk15, rfl, hR⟩⟩

def refHeld (L : List Mv) (tick p : Int) (k : Nat) : List Int := ((List.range k).map fun i => tick + 1 + ((i : Nat) : Int)).filter fun t => (lookL L p t).isSome
theorem refHeld_succ (L : List Mv) (tick p : Int) (k : Nat) : refHeld L tick p (k + 1) = refHeld L tick p k ++ if (lookL L p (tick + 1 + (k : Int))).isSome = true then [tick + 1 + (k : Int)] else [] := by
  unfold refHeld
  rw [List.range_succ, List.map_append, List.filter_append]
  congr 1
  simp only [List.map_cons, List.map_nil, List.filter_cons, List.filter_nil]
theorem refHeld_len (L : List Mv) (tick p : Int) (k : Nat) : (refHeld L tick p k).length ≤ k := Nat.le_trans (List.length_filter_le _ _) (by simp)
set_option maxHeartbeats 1000000 in
theorem rheld_ok (W : World) (x : Nat) (g : Gm) (A B : Option Addr) (ca cb : Nat) (AL : Option Addr) (cL : Nat) (L : List Mv) (tick : Int) (p : Int) (h : (refc x g A ca B cb AL cL L tick).ok W) (hl : L.length ≤ 1000) (ht : 0 ≤ tick ∧ tick ≤ 1000) :
    Calls Try.prog 24 #[.pointer (some ⟨x, 0, none⟩), .int .i64 p] W fun e w' => ∃ A2 c2, e = .returned (.slice A2 (refHeld L tick p 8).length c2) ∧ Fr (refc x g A ca B cb AL cL L tick).fp W w' ∧ (refc x g A ca B cb AL cL L tick).ok w' ∧ (row A2 c2 22 1 (refHeld L tick p 8).length (nums .u32 (refHeld L tick p 8))).ok w' ∧ ∀ b, b ∈ (row A2 c2 22 1 (refHeld L tick p 8).length (nums .u32 (refHeld L tick p 8))).fp → W.heap.size ≤ b := by
  have H : St W (refc x g A ca B cb AL cL L tick).fp [blk x (gvD g A ca B cb AL cL L.length tick) 53, row AL cL 85 3 (L).length (encs Mv.enc L)] [] W := (St.one h).splitB
  refine calls_enter (N := 39) Try.func24 rfl Try.ntmps24 rfl ?_
  refine WC_seq ?_
  refine WC_region ?_
  refine WL_x (x_assign (v := (.slice none 0 0)) rfl) ?_
  refine WL_nil ?_
  refine thenE_normal ?_
  refine WC_seq ?_
  refine WC_region ?_
  refine WL_x (x_assign (v := (.slice none 0 0)) rfl) ?_
  refine WL_nil ?_
  refine thenE_normal ?_
  refine WC_seq ?_
  refine WC_seq ?_
  refine WC_region ?_
  refine WL_x (x_move (v := .pointer _) rfl) ?_
  refine WL_x (x_nilCheck rfl) ?_
  refine WL_x (x_fieldAddr (n := 0) (o' := 7) Try.underlying53 rfl (by kernel_rfl) rfl rfl) ?_
  first | refine WL_x (x_load (v := .int .u32 _) Try.underlying22 rfl rfl (H.cellAt .zero rfl)) ?_ | refine WL_x (x_load (v := .int .u32 _) Try.underlying22 rfl rfl (H.cellAt (.succ .zero) rfl)) ?_ | refine WL_x (x_load (v := .int .u32 _) Try.underlying22 rfl rfl (H.cellAt (.succ (.succ .zero)) rfl)) ?_ | refine WL_x (x_load (v := .int .u32 _) Try.underlying22 rfl rfl (H.cellAt (.succ (.succ (.succ .zero))) rfl)) ?_ | refine WL_x (x_load (v := .int .u32 _) Try.underlying22 rfl rfl (H.cellAt (.succ (.succ (.succ (.succ .zero)))) rfl)) ?_ | refine WL_x (x_load Try.underlying22 rfl rfl (H.rnum .zero (by omega) (by omega))) ?_ | refine WL_x (x_load Try.underlying22 rfl rfl (H.rnum (.succ .zero) (by omega) (by omega))) ?_ | refine WL_x (x_load Try.underlying22 rfl rfl (H.rnum (.succ (.succ .zero)) (by omega) (by omega))) ?_ | refine WL_x (x_load Try.underlying22 rfl rfl (H.onum .zero (by omega) (by omega))) ?_ | refine WL_x (x_load Try.underlying22 rfl rfl (H.onum (.succ .zero) (by omega) (by omega))) ?_ | refine WL_x (x_load Try.underlying22 rfl rfl (H.onum (.succ (.succ .zero)) (by omega) (by omega))) ?_
  refine WL_x (x_convert Try.underlying22 Try.underlying86 rfl (u64_in (by omega) (by omega))) ?_
  refine WL_x (x_binop rfl rfl (r_add_in (u64_in (by omega) (by omega)))) ?_
  refine WL_x (x_assign (v := .int .u64 _) rfl) ?_
  refine WL_nil ?_
  refine thenE_normal ?_
  refine WC_block ?_
  refine WC_while (fun (s : Nat × Option Addr × Nat) f w' => s.1 ≤ 8 ∧ f 6 = .int .u64 (tick + 1 + (s.1 : Int)) ∧ f 0 = .pointer (some ⟨x, 0, none⟩) ∧ f 1 = .int .i64 p ∧ f 5 = .slice s.2.1 (refHeld L tick p s.1).length s.2.2 ∧ St W (refc x g A ca B cb AL cL L tick).fp [row s.2.1 s.2.2 22 1 (refHeld L tick p s.1).length (nums .u32 (refHeld L tick p s.1)), blk x (gvD g A ca B cb AL cL L.length tick) 53, row AL cL 85 3 (L).length (encs Mv.enc L)] [] w') (fun s => 8 - s.1) (s0 := (0, none, 0)) ?_ ?_
  · exact ⟨by simp only; omega, (congrArg (Value.int .u64) (by simp)), rfl, rfl, rfl, H.nilRow 22 1⟩
  · clear H
    rintro ⟨k, A2, c2⟩ f w ⟨hk, h6, h0, h1, h5, H⟩
    simp only at hk h6 h0 h1 h5 H
    rw [← upd_self h6, ← upd_self h0, ← upd_self h1, ← upd_self h5]
    have hlen := refHeld_len L tick p k
    refine WC_seq ?_
    refine WC_seq ?_
    refine WC_region ?_
    refine WL_x (x_move (v := .int .u64 _) rfl) ?_
    refine WL_x (x_move (v := .pointer _) rfl) ?_
    refine WL_x (x_nilCheck rfl) ?_
    refine WL_x (x_fieldAddr (n := 0) (o' := 7) Try.underlying53 rfl (by kernel_rfl) rfl rfl) ?_
    first | refine WL_x (x_load (v := .int .u32 _) Try.underlying22 rfl rfl (H.cellAt .zero rfl)) ?_ | refine WL_x (x_load (v := .int .u32 _) Try.underlying22 rfl rfl (H.cellAt (.succ .zero) rfl)) ?_ | refine WL_x (x_load (v := .int .u32 _) Try.underlying22 rfl rfl (H.cellAt (.succ (.succ .zero)) rfl)) ?_ | refine WL_x (x_load (v := .int .u32 _) Try.underlying22 rfl rfl (H.cellAt (.succ (.succ (.succ .zero))) rfl)) ?_ | refine WL_x (x_load (v := .int .u32 _) Try.underlying22 rfl rfl (H.cellAt (.succ (.succ (.succ (.succ .zero)))) rfl)) ?_ | refine WL_x (x_load Try.underlying22 rfl rfl (H.rnum .zero (by omega) (by omega))) ?_ | refine WL_x (x_load Try.underlying22 rfl rfl (H.rnum (.succ .zero) (by omega) (by omega))) ?_ | refine WL_x (x_load Try.underlying22 rfl rfl (H.rnum (.succ (.succ .zero)) (by omega) (by omega))) ?_ | refine WL_x (x_load Try.underlying22 rfl rfl (H.onum .zero (by omega) (by omega))) ?_ | refine WL_x (x_load Try.underlying22 rfl rfl (H.onum (.succ .zero) (by omega) (by omega))) ?_ | refine WL_x (x_load Try.underlying22 rfl rfl (H.onum (.succ (.succ .zero)) (by omega) (by omega))) ?_
    refine WL_x (x_convert Try.underlying22 Try.underlying86 rfl (u64_in (by omega) (by omega))) ?_
    refine WL_x (x_binop rfl rfl (r_add_in (u64_in (by omega) (by omega)))) ?_
    refine WL_x (x_binop rfl rfl (r_leq _ _ _ _)) ?_
    refine WL_nil ?_
    refine thenE_normal ?_
    refine WC_ifd rfl (fun h20 => ?_) (fun h20 => ?_)
    · refine WC_skip ?_
      refine thenE_normal ?_
      refine WC_seq ?_
      refine WC_block ?_
      refine WC_seq ?_
      refine WC_region ?_
      refine WL_x (x_move (v := .int .u64 _) rfl) ?_
      refine WL_x (x_binop rfl rfl (r_lss _ _ _ _)) ?_
      refine WL_x (x_move (v := .bool _) rfl) ?_
      first | refine WL_cased (t := 25) rfl (fun h25 => ?_) (fun h25 => ?_) | refine WL_casen (t := 25) rfl (fun h25 => ?_) (fun h25 => ?_) | refine WL_case (t := 25) rfl (fun h25 => ?_) (fun h25 => ?_)
      · refine WL_guard_yes rfl rfl rfl ?_
        refine WL_x (x_move (v := .pointer _) rfl) ?_
        refine WL_guard_yes rfl rfl rfl ?_
        refine WL_x (x_move (v := .int .i64 _) rfl) ?_
        refine WL_guard_yes rfl rfl rfl ?_
        refine WL_x (x_move (v := .int .u64 _) rfl) ?_
        refine WL_guard_yes rfl rfl rfl ?_
        refine WL_x (x_convert Try.underlying86 Try.underlying22 rfl (u32_in (by omega) (by omega))) ?_
        refine WL_guard_yes rfl rfl rfl ?_
        refine WL_call (vs := [.pointer _, .int .i64 _, .int .u32 _]) Try.func31 rfl rfl rfl (at_ok _ x g A B ca cb AL cL L tick p (tick + 1 + (k : Int)) (H.pop.joinB.ok _ List.mem_cons_self) hl) ?_
        rintro _ w ⟨r, rfl, hf, hok, hr⟩
        refine ⟨_, rfl, ?_⟩
        replace H := (H.perm (List.perm_append_comm (l₁ := [row A2 c2 22 1 (refHeld L tick p k).length (nums .u32 (refHeld L tick p k))]) (l₂ := [blk x (gvD g A ca B cb AL cL L.length tick) 53, row AL cL 85 3 (L).length (encs Mv.enc L)]))).joinB
        replace H := H.turn .zero hf (fun _ h => .inl h) hok (fun _ h => .inl h)
        replace H := (H.splitB).perm (List.perm_append_comm (l₁ := [blk x (gvD g A ca B cb AL cL L.length tick) 53, row AL cL 85 3 (L).length (encs Mv.enc L)]) (l₂ := [row A2 c2 22 1 (refHeld L tick p k).length (nums .u32 (refHeld L tick p k))]))
        have hr2 : (r ≥ 0) = ((lookL L p (tick + 1 + (k : Int))).isSome = true) := by
          rcases hr with ⟨rfl, hr⟩ | ⟨q, _, rfl, hr⟩
          · rw [hr]; simp
          · rw [hr]; simp
        refine WL_guard_yes rfl rfl rfl ?_
        refine WL_x (x_binop rfl rfl (r_geq _ _ _ _)) ?_
        refine WL_x (x_pick (v := .bool _) rfl rfl) ?_
        refine WL_nil ?_
        refine thenE_normal ?_
        refine WC_ifd rfl (fun h32 => ?_) (fun h32 => ?_)
        · have hsucc : refHeld L tick p (k + 1) = refHeld L tick p k ++ [tick + 1 + (k : Int)] := by rw [refHeld_succ, if_pos (hr2 ▸ h32)]
          refine WC_region ?_
          refine WL_x (x_move (v := .slice _ _ _) rfl) ?_
          refine WL_x (x_move (v := .int .u64 _) rfl) ?_
          refine WL_x (x_convert Try.underlying86 Try.underlying22 rfl (u32_in (by omega) (by omega))) ?_
          refine WL_buildSliceS (s := 1) (z0 := [(.int .u32 0)]) (zero := [(.int .u32 0)]) (cells := [_]) (vs := [(0, .int .u32 _)]) Try.underlying33 (by kernel_rfl) (by kernel_rfl) rfl rfl rfl rfl H ?_
          clear H; intro b36 w H
          refine WL_append (i := Try.t22) (bytes := 4) (size := 1) Try.underlying33 (by kernel_rfl) rfl rfl rfl (by kernel_rfl) rfl rfl rfl H (fun _ _ => .succ .zero) (rfl) (blk_cells (H.get (Has.mem .zero))) (by simp [Value.oneCell']) (by simp only [maxLen]; omega) (by omega) ?_
          clear H; intro A37 c37 w H
          refine WL_x (x_assign (v := .slice _ _ _) rfl) ?_
          refine WL_nil ?_
          refine inBlockE_normal ?_
          refine thenE_normal ?_
          refine WC_region ?_
          refine WL_x (x_move (v := .int .u64 _) rfl) ?_
          refine WL_x (x_binop rfl rfl (r_add_in (u64_in (by omega) (by omega)))) ?_
          refine WL_x (x_assign (v := .int .u64 _) rfl) ?_
          refine WL_nil ?_
          refine thenE_normal ?_
          first
            | (refine ⟨(k + 1, A37, c37), ⟨by simp only; omega, (congrArg (Value.int .u64) (by simp only; omega)), rfl, rfl, ?_, ?_⟩, by simp only; omega⟩
               · simp only; rw [hsucc, List.length_append]; rfl
               · simp only; rw [hsucc, List.length_append, nums_append]; exact H.pop)
            | (refine ⟨(k + 1, A2, c2), ⟨by simp only; omega, (congrArg (Value.int .u64) (by simp only; omega)), rfl, rfl, ?_, ?_⟩, by simp only; omega⟩
               · simp only; rw [hsucc]; rfl
               · simp only; rw [hsucc]; exact H)
        · have hsucc : refHeld L tick p (k + 1) = refHeld L tick p k := by rw [refHeld_succ, if_neg (hr2 ▸ h32), List.append_nil]
          refine WC_skip ?_
          refine inBlockE_normal ?_
          refine thenE_normal ?_
          refine WC_region ?_
          refine WL_x (x_move (v := .int .u64 _) rfl) ?_
          refine WL_x (x_binop rfl rfl (r_add_in (u64_in (by omega) (by omega)))) ?_
          refine WL_x (x_assign (v := .int .u64 _) rfl) ?_
          refine WL_nil ?_
          refine thenE_normal ?_
          first
            | (refine ⟨(k + 1, A37, c37), ⟨by simp only; omega, (congrArg (Value.int .u64) (by simp only; omega)), rfl, rfl, ?_, ?_⟩, by simp only; omega⟩
               · simp only; rw [hsucc, List.length_append]; rfl
               · simp only; rw [hsucc, List.length_append, nums_append]; exact H.pop)
            | (refine ⟨(k + 1, A2, c2), ⟨by simp only; omega, (congrArg (Value.int .u64) (by simp only; omega)), rfl, rfl, ?_, ?_⟩, by simp only; omega⟩
               · simp only; rw [hsucc]; rfl
               · simp only; rw [hsucc]; exact H)
      · exact absurd (by omega) h25
    · obtain rfl : k = 8 := by omega
      refine WC_exit ?_
      refine thenE_exit ?_
      refine thenE_exit ?_
      refine inBlockE_exit ?_
      refine thenE_normal ?_
      refine WC_seq ?_
      refine WC_region ?_
      refine WL_x (x_move (v := .slice _ _ _) rfl) ?_
      refine WL_x (x_assign (v := .slice _ _ _) rfl) ?_
      refine WL_nil ?_
      refine thenE_normal ?_
      refine WC_ret ?_
      refine ends1 (v := .slice _ _ _) Try.results24 rfl ?_
      refine ⟨A2, c2, rfl, H.fr, H.pop.joinB.ok _ List.mem_cons_self, H.ok _ (Has.mem .zero), ?_⟩
      exact H.freshOf (fun y hy => by
          simp only [refc, both, List.mem_append] at hy
          rcases hy with hy | hy
          · exact ⟨_, Has.mem .zero, hy⟩
          · exact ⟨_, Has.mem (.succ .zero), hy⟩)

def rputE (g : Gm) (L : List Mv) (tick p t m : Int) : Int :=
  if p < 0 ∨ gameRight g = false ∨ g.pl ≤ p then 3 else if g.moves ≤ m then 1 else if t ≤ tick then 11 else if t > tick + 8 then 14 else if (lookL L p t).isSome = true then 12 else 0
def rputL (g : Gm) (L : List Mv) (tick p t m : Int) : List Mv := if rputE g L tick p t m = 0 then L ++ [⟨p, t, m⟩] else L
set_option maxHeartbeats 1000000 in
theorem rput_ok (W : World) (x : Nat) (g : Gm) (A B : Option Addr) (ca cb : Nat) (AL : Option Addr) (cL : Nat) (L : List Mv) (tick : Int) (p t m : Int) (h : (refc x g A ca B cb AL cL L tick).ok W) (hl : L.length ≤ 1000) (hx : Cells W A (encs Cel.enc g.cells)) (hy : Cells W B (encs Cd.enc g.code)) (hg : g.ok) (hd : ∀ b, b ∈ (refc x g A ca B cb AL cL L tick).fp → b ∉ (Go.HW.cells A (encs Cel.enc g.cells)).fp ∧ b ∉ (Go.HW.cells B (encs Cd.enc g.code)).fp) (hp : -9223372036854775808 ≤ p ∧ p ≤ 9223372036854775807) (ht : 0 ≤ tick ∧ tick ≤ 4294967295) (htt : 0 ≤ t ∧ t ≤ 4294967295) :
    Calls Try.prog 23 #[.pointer (some ⟨x, 0, none⟩), .int .i64 p, .int .u32 t, .int .u32 m] W fun e w' => ∃ AL' cL', e = .returned (.int .i64 (rputE g L tick p t m)) ∧ Fr (refc x g A ca B cb AL cL L tick).fp W w' ∧ (refc x g A ca B cb AL' cL' (rputL g L tick p t m) tick).ok w' ∧ ∀ b, b ∈ (refc x g A ca B cb AL' cL' (rputL g L tick p t m) tick).fp → b ∈ (refc x g A ca B cb AL cL L tick).fp ∨ W.heap.size ≤ b := by
  have H : St W (refc x g A ca B cb AL cL L tick).fp [blk x (gvD g A ca B cb AL cL L.length tick) 53, row AL cL 85 3 (L).length (encs Mv.enc L)] [Go.HW.cells A (encs Cel.enc g.cells), Go.HW.cells B (encs Cd.enc g.code)] W := (St.oneRo h (by simp; exact ⟨cells_ok hx, cells_ok hy⟩) (by
    intro d hd' b hb
    simp only [List.mem_cons, List.not_mem_nil, or_false] at hd'
    rcases hd' with rfl | rfl
    · exact (hd b hb).1
    · exact (hd b hb).2)).splitB
  refine calls_enter (N := 73) Try.func23 rfl Try.ntmps23 rfl ?_
  refine WC_seq ?_
  refine WC_region ?_
  refine WL_x (x_assign (v := (.int .i64 0)) rfl) ?_
  refine WL_nil ?_
  refine thenE_normal ?_
  refine WC_seq ?_
  refine WC_block ?_
  refine WC_seq ?_
  refine WC_region ?_
  refine WL_x (x_move (v := .int .i64 _) rfl) ?_
  refine WL_x (x_binop rfl rfl (r_lss _ _ _ _)) ?_
  refine WL_x (x_move (v := .bool _) rfl) ?_
  first | refine WL_cased (t := 12) rfl (fun h12 => ?_) (fun h12 => ?_) | refine WL_casen (t := 12) rfl (fun h12 => ?_) (fun h12 => ?_) | refine WL_case (t := 12) rfl (fun h12 => ?_) (fun h12 => ?_)
  · have hE : rputE g L tick p t m = 3 := by unfold rputE; rw [if_pos (by omega)]
    refine WL_guard_no rfl rfl rfl ?_
    refine WL_guard_no rfl rfl rfl ?_
    refine WL_guard_no rfl rfl rfl ?_
    refine WL_guard_no rfl rfl rfl ?_
    refine WL_guard_no rfl rfl rfl ?_
    refine WL_guard_no rfl rfl rfl ?_
    refine WL_x (x_pick (v := .bool _) rfl rfl) ?_
    refine WL_x (x_move (v := .bool _) rfl) ?_
    refine WL_guard_no rfl rfl rfl ?_
    refine WL_guard_no rfl rfl rfl ?_
    refine WL_guard_no rfl rfl rfl ?_
    refine WL_guard_no rfl rfl rfl ?_
    refine WL_guard_no rfl rfl rfl ?_
    refine WL_guard_no rfl rfl rfl ?_
    refine WL_guard_no rfl rfl rfl ?_
    refine WL_x (x_pick (v := .bool _) rfl rfl) ?_
    refine WL_x (x_assign (v := .bool _) rfl) ?_
    refine WL_nil ?_
    refine thenE_normal ?_
    refine WC_yes rfl ?_
    refine WC_seq ?_
    refine WC_region ?_
    refine WL_x (x_assign (v := (.int .i64 3)) rfl) ?_
    refine WL_nil ?_
    refine thenE_normal ?_
    refine WC_ret ?_
    refine inBlockE_ret ?_
    refine thenE_ret ?_
    refine ends1 (v := .int .i64 _) Try.results23 rfl ?_
    first
      | (rw [hE]
         have hL : rputL g L tick p t m = L := by unfold rputL; rw [if_neg (by rw [hE]; decide)]
         rw [hL]
         exact ⟨AL, cL, rfl, H.fr, H.joinB.ok _ List.mem_cons_self, fun b hb => .inl hb⟩)
      | (rw [hE0, hL]
         have hlen : (L ++ [(⟨p, t, m⟩ : Mv)]).length = L.length + 1 := by simp
         rw [← hlen] at H
         exact ⟨A70, c70, rfl, H.fr, H.joinB.ok _ List.mem_cons_self, fun b hb => H.joinB.own _ List.mem_cons_self b hb⟩)
  · refine WL_guard_yes rfl rfl rfl ?_
    refine WL_x (x_move (v := .pointer _) rfl) ?_
    refine WL_guard_yes rfl rfl rfl ?_
    refine WL_x (x_nilCheck rfl) ?_
    refine WL_guard_yes rfl rfl rfl ?_
    refine WL_x (x_fieldAddr (n := 5) (o' := 0) Try.underlying53 rfl (by kernel_rfl) rfl rfl) ?_
    refine WL_guard_yes rfl rfl rfl ?_
    refine WL_x (x_loadA (n := 6) (vs := g.val A ca B cb) Try.underlying49 rfl (by kernel_rfl) rfl rfl (H.range (k := 6) .zero rfl)) ?_
    refine WL_guard_yes rfl rfl rfl ?_
    refine WL_call (vs := [.agg (List.toArray _)]) Try.func30 rfl rfl rfl (r10right_ok _ g A B ca cb hg (H.rget (Has.mem .zero)) (H.rget (Has.mem (.succ .zero)))) ?_
    rintro _ w ⟨rfl, hf⟩
    refine ⟨_, rfl, ?_⟩
    replace H := H.quiet hf
    refine WL_guard_yes rfl rfl rfl ?_
    refine WL_x (x_not rfl) ?_
    refine WL_x (x_pick (v := .bool _) rfl rfl) ?_
    refine WL_x (x_move (v := .bool _) rfl) ?_
    refine WL_case (t := 20) rfl (fun h20 => ?_) (fun h20 => ?_)
    · have hgr : gameRight g = false := by simpa using h20
      have hE : rputE g L tick p t m = 3 := by unfold rputE; rw [if_pos (.inr (.inl hgr))]
      refine WL_guard_no rfl rfl rfl ?_
      refine WL_guard_no rfl rfl rfl ?_
      refine WL_guard_no rfl rfl rfl ?_
      refine WL_guard_no rfl rfl rfl ?_
      refine WL_guard_no rfl rfl rfl ?_
      refine WL_guard_no rfl rfl rfl ?_
      refine WL_guard_no rfl rfl rfl ?_
      refine WL_x (x_pick (v := .bool _) rfl rfl) ?_
      refine WL_x (x_assign (v := .bool _) rfl) ?_
      refine WL_nil ?_
      refine thenE_normal ?_
      refine WC_yes rfl ?_
      refine WC_seq ?_
      refine WC_region ?_
      refine WL_x (x_assign (v := (.int .i64 3)) rfl) ?_
      refine WL_nil ?_
      refine thenE_normal ?_
      refine WC_ret ?_
      refine inBlockE_ret ?_
      refine thenE_ret ?_
      refine ends1 (v := .int .i64 _) Try.results23 rfl ?_
      first
        | (rw [hE]
           have hL : rputL g L tick p t m = L := by unfold rputL; rw [if_neg (by rw [hE]; decide)]
           rw [hL]
           exact ⟨AL, cL, rfl, H.fr, H.joinB.ok _ List.mem_cons_self, fun b hb => .inl hb⟩)
        | (rw [hE0, hL]
           have hlen : (L ++ [(⟨p, t, m⟩ : Mv)]).length = L.length + 1 := by simp
           rw [← hlen] at H
           exact ⟨A70, c70, rfl, H.fr, H.joinB.ok _ List.mem_cons_self, fun b hb => H.joinB.own _ List.mem_cons_self b hb⟩)
    · have hgr : gameRight g = true := by simpa using h20
      refine WL_guard_yes rfl rfl rfl ?_
      refine WL_x (x_move (v := .int .i64 _) rfl) ?_
      refine WL_guard_yes rfl rfl rfl ?_
      refine WL_x (x_move (v := .pointer _) rfl) ?_
      refine WL_guard_yes rfl rfl rfl ?_
      refine WL_x (x_nilCheck rfl) ?_
      refine WL_guard_yes rfl rfl rfl ?_
      refine WL_x (x_fieldAddr (n := 5) (o' := 0) Try.underlying53 rfl (by kernel_rfl) rfl rfl) ?_
      refine WL_guard_yes rfl rfl rfl ?_
      refine WL_x (x_fieldAddr (n := 0) (o' := 1) Try.underlying49 rfl (by kernel_rfl) rfl rfl) ?_
      refine WL_guard_yes rfl rfl rfl ?_
      first | refine WL_x (x_load (v := .int .i64 _) Try.underlying3 rfl rfl (H.cellAt .zero rfl)) ?_ | refine WL_x (x_load (v := .int .i64 _) Try.underlying3 rfl rfl (H.cellAt (.succ .zero) rfl)) ?_ | refine WL_x (x_load (v := .int .i64 _) Try.underlying3 rfl rfl (H.cellAt (.succ (.succ .zero)) rfl)) ?_ | refine WL_x (x_load (v := .int .i64 _) Try.underlying3 rfl rfl (H.cellAt (.succ (.succ (.succ .zero))) rfl)) ?_ | refine WL_x (x_load (v := .int .i64 _) Try.underlying3 rfl rfl (H.cellAt (.succ (.succ (.succ (.succ .zero)))) rfl)) ?_ | refine WL_x (x_load Try.underlying3 rfl rfl (H.rnum .zero (by omega) (by omega))) ?_ | refine WL_x (x_load Try.underlying3 rfl rfl (H.rnum (.succ .zero) (by omega) (by omega))) ?_ | refine WL_x (x_load Try.underlying3 rfl rfl (H.rnum (.succ (.succ .zero)) (by omega) (by omega))) ?_ | refine WL_x (x_load Try.underlying3 rfl rfl (H.onum .zero (by omega) (by omega))) ?_ | refine WL_x (x_load Try.underlying3 rfl rfl (H.onum (.succ .zero) (by omega) (by omega))) ?_ | refine WL_x (x_load Try.underlying3 rfl rfl (H.onum (.succ (.succ .zero)) (by omega) (by omega))) ?_
      refine WL_guard_yes rfl rfl rfl ?_
      refine WL_x (x_binop rfl rfl (r_geq _ _ _ _)) ?_
      refine WL_x (x_pick (v := .bool _) rfl rfl) ?_
      refine WL_x (x_assign (v := .bool _) rfl) ?_
      refine WL_nil ?_
      refine thenE_normal ?_
      refine WC_ifd rfl (fun h9 => ?_) (fun h9 => ?_)
      · have hE : rputE g L tick p t m = 3 := by unfold rputE; rw [if_pos (by omega)]
        refine WC_seq ?_
        refine WC_region ?_
        refine WL_x (x_assign (v := (.int .i64 3)) rfl) ?_
        refine WL_nil ?_
        refine thenE_normal ?_
        refine WC_ret ?_
        refine inBlockE_ret ?_
        refine thenE_ret ?_
        refine ends1 (v := .int .i64 _) Try.results23 rfl ?_
        first
          | (rw [hE]
             have hL : rputL g L tick p t m = L := by unfold rputL; rw [if_neg (by rw [hE]; decide)]
             rw [hL]
             exact ⟨AL, cL, rfl, H.fr, H.joinB.ok _ List.mem_cons_self, fun b hb => .inl hb⟩)
          | (rw [hE0, hL]
             have hlen : (L ++ [(⟨p, t, m⟩ : Mv)]).length = L.length + 1 := by simp
             rw [← hlen] at H
             exact ⟨A70, c70, rfl, H.fr, H.joinB.ok _ List.mem_cons_self, fun b hb => H.joinB.own _ List.mem_cons_self b hb⟩)
      · have hn1 : ¬ (p < 0 ∨ gameRight g = false ∨ g.pl ≤ p) := by rw [hgr]; simp; omega
        refine WC_seq ?_
        refine WC_region ?_
        refine WL_x (x_move (v := .int .u32 _) rfl) ?_
        refine WL_x (x_move (v := .pointer _) rfl) ?_
        refine WL_x (x_nilCheck rfl) ?_
        refine WL_x (x_fieldAddr (n := 5) (o' := 0) Try.underlying53 rfl (by kernel_rfl) rfl rfl) ?_
        refine WL_x (x_fieldAddr (n := 0) (o' := 2) Try.underlying49 rfl (by kernel_rfl) rfl rfl) ?_
        first | refine WL_x (x_load (v := .int .u32 _) Try.underlying22 rfl rfl (H.cellAt .zero rfl)) ?_ | refine WL_x (x_load (v := .int .u32 _) Try.underlying22 rfl rfl (H.cellAt (.succ .zero) rfl)) ?_ | refine WL_x (x_load (v := .int .u32 _) Try.underlying22 rfl rfl (H.cellAt (.succ (.succ .zero)) rfl)) ?_ | refine WL_x (x_load (v := .int .u32 _) Try.underlying22 rfl rfl (H.cellAt (.succ (.succ (.succ .zero))) rfl)) ?_ | refine WL_x (x_load (v := .int .u32 _) Try.underlying22 rfl rfl (H.cellAt (.succ (.succ (.succ (.succ .zero)))) rfl)) ?_ | refine WL_x (x_load Try.underlying22 rfl rfl (H.rnum .zero (by omega) (by omega))) ?_ | refine WL_x (x_load Try.underlying22 rfl rfl (H.rnum (.succ .zero) (by omega) (by omega))) ?_ | refine WL_x (x_load Try.underlying22 rfl rfl (H.rnum (.succ (.succ .zero)) (by omega) (by omega))) ?_ | refine WL_x (x_load Try.underlying22 rfl rfl (H.onum .zero (by omega) (by omega))) ?_ | refine WL_x (x_load Try.underlying22 rfl rfl (H.onum (.succ .zero) (by omega) (by omega))) ?_ | refine WL_x (x_load Try.underlying22 rfl rfl (H.onum (.succ (.succ .zero)) (by omega) (by omega))) ?_
        refine WL_x (x_binop rfl rfl (r_geq _ _ _ _)) ?_
        refine WL_x (x_assign (v := .bool _) rfl) ?_
        refine WL_nil ?_
        refine thenE_normal ?_
        refine WC_ifd rfl (fun h29 => ?_) (fun h29 => ?_)
        · have hE : rputE g L tick p t m = 1 := by unfold rputE; rw [if_neg hn1, if_pos (by omega)]
          refine WC_seq ?_
          refine WC_region ?_
          refine WL_x (x_assign (v := (.int .i64 1)) rfl) ?_
          refine WL_nil ?_
          refine thenE_normal ?_
          refine WC_ret ?_
          refine inBlockE_ret ?_
          refine thenE_ret ?_
          refine ends1 (v := .int .i64 _) Try.results23 rfl ?_
          first
            | (rw [hE]
               have hL : rputL g L tick p t m = L := by unfold rputL; rw [if_neg (by rw [hE]; decide)]
               rw [hL]
               exact ⟨AL, cL, rfl, H.fr, H.joinB.ok _ List.mem_cons_self, fun b hb => .inl hb⟩)
            | (rw [hE0, hL]
               have hlen : (L ++ [(⟨p, t, m⟩ : Mv)]).length = L.length + 1 := by simp
               rw [← hlen] at H
               exact ⟨A70, c70, rfl, H.fr, H.joinB.ok _ List.mem_cons_self, fun b hb => H.joinB.own _ List.mem_cons_self b hb⟩)
        · refine WC_seq ?_
          refine WC_region ?_
          refine WL_x (x_move (v := .int .u32 _) rfl) ?_
          refine WL_x (x_move (v := .pointer _) rfl) ?_
          refine WL_x (x_nilCheck rfl) ?_
          refine WL_x (x_fieldAddr (n := 0) (o' := 7) Try.underlying53 rfl (by kernel_rfl) rfl rfl) ?_
          first | refine WL_x (x_load (v := .int .u32 _) Try.underlying22 rfl rfl (H.cellAt .zero rfl)) ?_ | refine WL_x (x_load (v := .int .u32 _) Try.underlying22 rfl rfl (H.cellAt (.succ .zero) rfl)) ?_ | refine WL_x (x_load (v := .int .u32 _) Try.underlying22 rfl rfl (H.cellAt (.succ (.succ .zero)) rfl)) ?_ | refine WL_x (x_load (v := .int .u32 _) Try.underlying22 rfl rfl (H.cellAt (.succ (.succ (.succ .zero))) rfl)) ?_ | refine WL_x (x_load (v := .int .u32 _) Try.underlying22 rfl rfl (H.cellAt (.succ (.succ (.succ (.succ .zero)))) rfl)) ?_ | refine WL_x (x_load Try.underlying22 rfl rfl (H.rnum .zero (by omega) (by omega))) ?_ | refine WL_x (x_load Try.underlying22 rfl rfl (H.rnum (.succ .zero) (by omega) (by omega))) ?_ | refine WL_x (x_load Try.underlying22 rfl rfl (H.rnum (.succ (.succ .zero)) (by omega) (by omega))) ?_ | refine WL_x (x_load Try.underlying22 rfl rfl (H.onum .zero (by omega) (by omega))) ?_ | refine WL_x (x_load Try.underlying22 rfl rfl (H.onum (.succ .zero) (by omega) (by omega))) ?_ | refine WL_x (x_load Try.underlying22 rfl rfl (H.onum (.succ (.succ .zero)) (by omega) (by omega))) ?_
          refine WL_x (x_binop rfl rfl (r_leq _ _ _ _)) ?_
          refine WL_x (x_assign (v := .bool _) rfl) ?_
          refine WL_nil ?_
          refine thenE_normal ?_
          refine WC_ifd rfl (fun h37 => ?_) (fun h37 => ?_)
          · have hE : rputE g L tick p t m = 11 := by unfold rputE; rw [if_neg hn1, if_neg (by omega), if_pos (by omega)]
            refine WC_seq ?_
            refine WC_region ?_
            refine WL_x (x_assign (v := (.int .i64 11)) rfl) ?_
            refine WL_nil ?_
            refine thenE_normal ?_
            refine WC_ret ?_
            refine inBlockE_ret ?_
            refine thenE_ret ?_
            refine ends1 (v := .int .i64 _) Try.results23 rfl ?_
            first
              | (rw [hE]
                 have hL : rputL g L tick p t m = L := by unfold rputL; rw [if_neg (by rw [hE]; decide)]
                 rw [hL]
                 exact ⟨AL, cL, rfl, H.fr, H.joinB.ok _ List.mem_cons_self, fun b hb => .inl hb⟩)
              | (rw [hE0, hL]
                 have hlen : (L ++ [(⟨p, t, m⟩ : Mv)]).length = L.length + 1 := by simp
                 rw [← hlen] at H
                 exact ⟨A70, c70, rfl, H.fr, H.joinB.ok _ List.mem_cons_self, fun b hb => H.joinB.own _ List.mem_cons_self b hb⟩)
          · refine WC_seq ?_
            refine WC_region ?_
            refine WL_x (x_move (v := .int .u32 _) rfl) ?_
            refine WL_x (x_convert Try.underlying22 Try.underlying86 rfl (u64_in (by omega) (by omega))) ?_
            refine WL_x (x_move (v := .pointer _) rfl) ?_
            refine WL_x (x_nilCheck rfl) ?_
            refine WL_x (x_fieldAddr (n := 0) (o' := 7) Try.underlying53 rfl (by kernel_rfl) rfl rfl) ?_
            first | refine WL_x (x_load (v := .int .u32 _) Try.underlying22 rfl rfl (H.cellAt .zero rfl)) ?_ | refine WL_x (x_load (v := .int .u32 _) Try.underlying22 rfl rfl (H.cellAt (.succ .zero) rfl)) ?_ | refine WL_x (x_load (v := .int .u32 _) Try.underlying22 rfl rfl (H.cellAt (.succ (.succ .zero)) rfl)) ?_ | refine WL_x (x_load (v := .int .u32 _) Try.underlying22 rfl rfl (H.cellAt (.succ (.succ (.succ .zero))) rfl)) ?_ | refine WL_x (x_load (v := .int .u32 _) Try.underlying22 rfl rfl (H.cellAt (.succ (.succ (.succ (.succ .zero)))) rfl)) ?_ | refine WL_x (x_load Try.underlying22 rfl rfl (H.rnum .zero (by omega) (by omega))) ?_ | refine WL_x (x_load Try.underlying22 rfl rfl (H.rnum (.succ .zero) (by omega) (by omega))) ?_ | refine WL_x (x_load Try.underlying22 rfl rfl (H.rnum (.succ (.succ .zero)) (by omega) (by omega))) ?_ | refine WL_x (x_load Try.underlying22 rfl rfl (H.onum .zero (by omega) (by omega))) ?_ | refine WL_x (x_load Try.underlying22 rfl rfl (H.onum (.succ .zero) (by omega) (by omega))) ?_ | refine WL_x (x_load Try.underlying22 rfl rfl (H.onum (.succ (.succ .zero)) (by omega) (by omega))) ?_
            refine WL_x (x_convert Try.underlying22 Try.underlying86 rfl (u64_in (by omega) (by omega))) ?_
            refine WL_x (x_binop rfl rfl (r_add_in (u64_in (by omega) (by omega)))) ?_
            refine WL_x (x_binop rfl rfl (r_gtr _ _ _ _)) ?_
            refine WL_x (x_assign (v := .bool _) rfl) ?_
            refine WL_nil ?_
            refine thenE_normal ?_
            refine WC_ifd rfl (fun h44 => ?_) (fun h44 => ?_)
            · have hE : rputE g L tick p t m = 14 := by unfold rputE; rw [if_neg hn1, if_neg (by omega), if_neg (by omega), if_pos (by omega)]
              refine WC_seq ?_
              refine WC_region ?_
              refine WL_x (x_assign (v := (.int .i64 14)) rfl) ?_
              refine WL_nil ?_
              refine thenE_normal ?_
              refine WC_ret ?_
              refine inBlockE_ret ?_
              refine thenE_ret ?_
              refine ends1 (v := .int .i64 _) Try.results23 rfl ?_
              first
                | (rw [hE]
                   have hL : rputL g L tick p t m = L := by unfold rputL; rw [if_neg (by rw [hE]; decide)]
                   rw [hL]
                   exact ⟨AL, cL, rfl, H.fr, H.joinB.ok _ List.mem_cons_self, fun b hb => .inl hb⟩)
                | (rw [hE0, hL]
                   have hlen : (L ++ [(⟨p, t, m⟩ : Mv)]).length = L.length + 1 := by simp
                   rw [← hlen] at H
                   exact ⟨A70, c70, rfl, H.fr, H.joinB.ok _ List.mem_cons_self, fun b hb => H.joinB.own _ List.mem_cons_self b hb⟩)
            · refine WC_seq ?_
              refine WC_region ?_
              refine WL_x (x_move (v := .pointer _) rfl) ?_
              refine WL_x (x_move (v := .int .i64 _) rfl) ?_
              refine WL_x (x_move (v := .int .u32 _) rfl) ?_
              refine WL_call (vs := [.pointer _, .int .i64 _, .int .u32 _]) Try.func31 rfl rfl rfl (at_ok _ x g A B ca cb AL cL L tick p t (H.joinB.ok _ List.mem_cons_self) hl) ?_
              rintro _ w ⟨r, rfl, hf, hok, hr⟩
              refine ⟨_, rfl, ?_⟩
              replace H := (H.joinB.turn .zero hf (fun _ h => .inl h) hok (fun _ h => .inl h)).splitB
              have hr2 : (r ≥ 0) = ((lookL L p t).isSome = true) := by
                rcases hr with ⟨rfl, hr⟩ | ⟨q, _, rfl, hr⟩
                · rw [hr]; simp
                · rw [hr]; simp
              refine WL_x (x_binop rfl rfl (r_geq _ _ _ _)) ?_
              refine WL_x (x_assign (v := .bool _) rfl) ?_
              refine WL_nil ?_
              refine thenE_normal ?_
              refine WC_ifd rfl (fun h54 => ?_) (fun h54 => ?_)
              · have hE : rputE g L tick p t m = 12 := by unfold rputE; rw [if_neg hn1, if_neg (by omega), if_neg (by omega), if_neg (by omega), if_pos (hr2 ▸ h54)]
                refine WC_seq ?_
                refine WC_region ?_
                refine WL_x (x_assign (v := (.int .i64 12)) rfl) ?_
                refine WL_nil ?_
                refine thenE_normal ?_
                refine WC_ret ?_
                refine inBlockE_ret ?_
                refine thenE_ret ?_
                refine ends1 (v := .int .i64 _) Try.results23 rfl ?_
                first
                  | (rw [hE]
                     have hL : rputL g L tick p t m = L := by unfold rputL; rw [if_neg (by rw [hE]; decide)]
                     rw [hL]
                     exact ⟨AL, cL, rfl, H.fr, H.joinB.ok _ List.mem_cons_self, fun b hb => .inl hb⟩)
                  | (rw [hE0, hL]
                     have hlen : (L ++ [(⟨p, t, m⟩ : Mv)]).length = L.length + 1 := by simp
                     rw [← hlen] at H
                     exact ⟨A70, c70, rfl, H.fr, H.joinB.ok _ List.mem_cons_self, fun b hb => H.joinB.own _ List.mem_cons_self b hb⟩)
              · have hE0 : rputE g L tick p t m = 0 := by unfold rputE; rw [if_neg hn1, if_neg (by omega), if_neg (by omega), if_neg (by omega), if_neg (hr2 ▸ h54)]
                have hL : rputL g L tick p t m = L ++ [⟨p, t, m⟩] := by unfold rputL; rw [if_pos hE0]
                refine WC_skip ?_
                refine inBlockE_normal ?_
                refine thenE_normal ?_
                refine WC_seq ?_
                refine WC_region ?_
                refine WL_x (x_move (v := .pointer _) rfl) ?_
                refine WL_x (x_move (v := .pointer _) rfl) ?_
                refine WL_x (x_nilCheck rfl) ?_
                refine WL_x (x_fieldAddr (n := 0) (o' := 6) Try.underlying53 rfl (by kernel_rfl) rfl rfl) ?_
                first | refine WL_x (x_load (v := .slice _ _ _) Try.underlying51 rfl rfl (H.cellAt .zero rfl)) ?_ | refine WL_x (x_load (v := .slice _ _ _) Try.underlying51 rfl rfl (H.cellAt (.succ .zero) rfl)) ?_ | refine WL_x (x_load (v := .slice _ _ _) Try.underlying51 rfl rfl (H.cellAt (.succ (.succ .zero)) rfl)) ?_ | refine WL_x (x_load (v := .slice _ _ _) Try.underlying51 rfl rfl (H.cellAt (.succ (.succ (.succ .zero))) rfl)) ?_ | refine WL_x (x_load (v := .slice _ _ _) Try.underlying51 rfl rfl (H.cellAt (.succ (.succ (.succ (.succ .zero)))) rfl)) ?_
                refine WL_x (x_move (v := .int .i64 _) rfl) ?_
                refine WL_x (x_move (v := .int .u32 _) rfl) ?_
                refine WL_x (x_move (v := .int .u32 _) rfl) ?_
                refine WL_x (x_buildS (pl := [(0, 1), (1, 1), (2, 1)]) (zero := [(.int .i64 0), (.int .u32 0), (.int .u32 0)]) (cells := [_, _, _]) (vs := [(0, .int .i64 _), (1, .int .u32 _), (2, .int .u32 _)]) Try.underlying85 (by kernel_rfl) (by kernel_rfl) (by kernel_rfl) rfl rfl) ?_
                refine WL_buildSliceS (s := 3) (z0 := [(.int .i64 0), (.int .u32 0), (.int .u32 0)]) (zero := [(.int .i64 0), (.int .u32 0), (.int .u32 0)]) (cells := (Mv.enc ⟨p, t, m⟩)) (vs := [(0, .agg (List.toArray _))]) Try.underlying51 (by kernel_rfl) (by kernel_rfl) rfl rfl rfl rfl H ?_
                clear H; intro b69 w H
                refine WL_append (i := Try.t85) (bytes := 16) (size := 3) Try.underlying51 (by kernel_rfl) rfl rfl rfl (by kernel_rfl) rfl rfl rfl H (fun _ _ => .succ (.succ .zero)) (rfl) (blk_cells (H.get (Has.mem .zero))) (Mv.one _) (by simp only [maxLen]; omega) (by omega) ?_
                clear H; intro A70 c70 w H
                replace H := H.pop
                have e1 : encs Mv.enc L ++ Mv.enc ⟨p, t, m⟩ = encs Mv.enc (L ++ [⟨p, t, m⟩]) := by rw [encs_append, encs_one]
                rw [e1] at H
                refine WL_x (x_nilCheck rfl) ?_
                refine WL_x (x_fieldAddr (n := 0) (o' := 6) Try.underlying53 rfl (by kernel_rfl) rfl rfl) ?_
                refine WL_store (v := .slice A70 (L.length + 1) c70) (l' := gvD g A ca B cb A70 c70 (L.length + 1) tick) Try.underlying51 rfl rfl rfl rfl (by kernel_rfl) H .zero (Nat.le_of_ble_eq_true rfl) rfl ?_
                clear H; intro w H
                refine WL_nil ?_
                refine thenE_normal ?_
                refine WC_seq ?_
                refine WC_region ?_
                refine WL_x (x_assign (v := (.int .i64 0)) rfl) ?_
                refine WL_nil ?_
                refine thenE_normal ?_
                refine WC_ret ?_
                refine ends1 (v := .int .i64 _) Try.results23 rfl ?_
                first
                  | (rw [hE]
                     have hL : rputL g L tick p t m = L := by unfold rputL; rw [if_neg (by rw [hE]; decide)]
                     rw [hL]
                     exact ⟨AL, cL, rfl, H.fr, H.joinB.ok _ List.mem_cons_self, fun b hb => .inl hb⟩)
                  | (rw [hE0, hL]
                     have hlen : (L ++ [(⟨p, t, m⟩ : Mv)]).length = L.length + 1 := by simp
                     rw [← hlen] at H
                     exact ⟨A70, c70, rfl, H.fr, H.joinB.ok _ List.mem_cons_self, fun b hb => H.joinB.own _ List.mem_cons_self b hb⟩)

def dropL (L : List Mv) (p : Int) : List Mv := L.filter fun m => decide (m.p ≠ p)
theorem filter_take_succ (f : Mv → Bool) (L : List Mv) (k : Nat) (hk : k < L.length) : (L.take (k + 1)).filter f = (L.take k).filter f ++ if f L[k] = true then [L[k]] else [] := by
  rw [List.take_succ_eq_append_getElem hk, List.filter_append]
  congr 1
  simp only [List.filter_cons, List.filter_nil]
theorem filter_take_len (f : Mv → Bool) (L : List Mv) (k : Nat) : ((L.take k).filter f).length ≤ L.length := Nat.le_trans (List.length_filter_le _ _) (by simp; omega)
set_option maxHeartbeats 1000000 in
theorem rdrop_ok (W : World) (x : Nat) (g : Gm) (A B : Option Addr) (ca cb : Nat) (AL : Option Addr) (cL : Nat) (L : List Mv) (tick : Int) (p : Int) (h : (refc x g A ca B cb AL cL L tick).ok W) (hl : L.length ≤ 1000) :
    Calls Try.prog 22 #[.pointer (some ⟨x, 0, none⟩), .int .i64 p] W fun e w' => ∃ AL' cL', e = .returned (.int .i64 ((L.length : Int) - ((dropL L p).length : Nat))) ∧ Fr (refc x g A ca B cb AL cL L tick).fp W w' ∧ (refc x g A ca B cb AL' cL' (dropL L p) tick).ok w' ∧ ∀ b, b ∈ (refc x g A ca B cb AL' cL' (dropL L p) tick).fp → b ∈ (refc x g A ca B cb AL cL L tick).fp ∨ W.heap.size ≤ b := by
  have H : St W (refc x g A ca B cb AL cL L tick).fp [blk x (gvD g A ca B cb AL cL L.length tick) 53, row AL cL 85 3 (L).length (encs Mv.enc L)] [] W := (St.one h).splitB
  refine calls_enter (N := 40) Try.func22 rfl Try.ntmps22 rfl ?_
  refine WC_seq ?_
  refine WC_region ?_
  refine WL_x (x_assign (v := (.int .i64 0)) rfl) ?_
  refine WL_nil ?_
  refine thenE_normal ?_
  refine WC_seq ?_
  refine WC_region ?_
  refine WL_x (x_assign (v := (.slice none 0 0)) rfl) ?_
  refine WL_nil ?_
  refine thenE_normal ?_
  refine WC_seq ?_
  refine WC_seq ?_
  refine WC_region ?_
  refine WL_x (x_move (v := .pointer _) rfl) ?_
  refine WL_x (x_nilCheck rfl) ?_
  refine WL_x (x_fieldAddr (n := 0) (o' := 6) Try.underlying53 rfl (by kernel_rfl) rfl rfl) ?_
  first | refine WL_x (x_load (v := .slice _ _ _) Try.underlying51 rfl rfl (H.cellAt .zero rfl)) ?_ | refine WL_x (x_load (v := .slice _ _ _) Try.underlying51 rfl rfl (H.cellAt (.succ .zero) rfl)) ?_ | refine WL_x (x_load (v := .slice _ _ _) Try.underlying51 rfl rfl (H.cellAt (.succ (.succ .zero)) rfl)) ?_ | refine WL_x (x_load (v := .slice _ _ _) Try.underlying51 rfl rfl (H.cellAt (.succ (.succ (.succ .zero))) rfl)) ?_ | refine WL_x (x_load (v := .slice _ _ _) Try.underlying51 rfl rfl (H.cellAt (.succ (.succ (.succ (.succ .zero)))) rfl)) ?_
  refine WL_x (x_len Try.underlying51 rfl) ?_
  refine WL_x (x_move (v := (.int .i64 0)) rfl) ?_
  refine WL_nil ?_
  refine thenE_normal ?_
  refine WC_block ?_
  refine WC_while (fun (s : Nat × Option Addr × Nat) f w' => s.1 ≤ L.length ∧ f 14 = .int .i64 s.1 ∧ f 13 = .int .i64 L.length ∧ f 12 = .slice AL L.length cL ∧ f 0 = .pointer (some ⟨x, 0, none⟩) ∧ f 1 = .int .i64 p ∧ f 5 = .slice s.2.1 (((L.take s.1).filter (fun (y : Mv) => decide (y.p ≠ p)))).length s.2.2 ∧ St W (refc x g A ca B cb AL cL L tick).fp [row s.2.1 s.2.2 85 3 (((L.take s.1).filter (fun (y : Mv) => decide (y.p ≠ p)))).length (encs Mv.enc (((L.take s.1).filter (fun (y : Mv) => decide (y.p ≠ p))))), blk x (gvD g A ca B cb AL cL L.length tick) 53, row AL cL 85 3 (L).length (encs Mv.enc L)] [] w') (fun s => L.length - s.1) (s0 := (0, none, 0)) ?_ ?_
  · exact ⟨Nat.zero_le _, rfl, rfl, rfl, rfl, rfl, rfl, H.nilRow 85 3⟩
  · clear H
    rintro ⟨k, A2, c2⟩ f w ⟨hk, h14, h13, h12, h0, h1, h5, H⟩
    simp only at hk h14 h13 h12 h0 h1 h5 H
    rw [← upd_self h14, ← upd_self h13, ← upd_self h12, ← upd_self h0, ← upd_self h1, ← upd_self h5]
    have hfl := filter_take_len (fun (y : Mv) => decide (y.p ≠ p)) L k
    refine WC_seq ?_
    refine WC_region ?_
    refine WL_x (x_binop rfl rfl (r_lss _ _ _ _)) ?_
    refine WL_nil ?_
    refine thenE_normal ?_
    refine WC_seq ?_
    refine WC_ifd rfl (fun h15 => ?_) (fun h15 => ?_)
    · have hk15 : k < L.length := by omega
      refine WC_skip ?_
      refine thenE_normal ?_
      refine WC_seq ?_
      refine WC_block ?_
      refine WC_seq ?_
      refine WC_region ?_
      refine WL_x (x_indexAddr (s := 3) Try.underlying51 (by kernel_rfl) rfl rfl (by omega) (by omega) (H.osome (l := encs Mv.enc L) (.succ (.succ .zero)) (by rw [encs_length Mv.enc Mv.len]; omega)) rfl) ?_
      refine WL_x (x_loadA (n := 3) (vs := (L[k]).enc) Try.underlying85 rfl (by kernel_rfl) rfl rfl (H.orange (k := 3) (.succ (.succ .zero)) (by rw [Int.toNat_natCast]; exact encs_get Mv.enc Mv.len L k hk15))) ?_
      refine WL_alloc (l := [(.int .i64 0), (.int .u32 0), (.int .u32 0)]) (by kernel_rfl) H ?_
      clear H; intro b7 w H
      first | refine WL_storeA rfl rfl rfl (by kernel_rfl) H .zero (Nat.le_of_ble_eq_true rfl) (splice_all _ _ rfl) ?_ | refine WL_storeA rfl rfl rfl (by kernel_rfl) H (.succ .zero) (Nat.le_of_ble_eq_true rfl) (splice_all _ _ rfl) ?_ | refine WL_storeA rfl rfl rfl (by kernel_rfl) H (.succ (.succ .zero)) (Nat.le_of_ble_eq_true rfl) (splice_all _ _ rfl) ?_ | refine WL_storeA rfl rfl rfl (by kernel_rfl) H (.succ (.succ (.succ .zero))) (Nat.le_of_ble_eq_true rfl) (splice_all _ _ rfl) ?_ | refine WL_storeA rfl rfl rfl (by kernel_rfl) H (.succ (.succ (.succ (.succ .zero)))) (Nat.le_of_ble_eq_true rfl) (splice_all _ _ rfl) ?_
      clear H; intro w H
      refine WL_nil ?_
      refine thenE_normal ?_
      refine WC_seq ?_
      refine WC_region ?_
      refine WL_x (x_fieldAddr (n := 0) (o' := 0) Try.underlying85 rfl (by kernel_rfl) rfl rfl) ?_
      refine WL_x (x_load (v := .int .i64 _) Try.underlying3 rfl rfl (H.cellAt (l := (L[k]).enc) .zero rfl)) ?_
      refine WL_x (x_move (v := .int .i64 _) rfl) ?_
      refine WL_x (x_binop rfl rfl (r_neq _ _ _ _)) ?_
      refine WL_nil ?_
      refine thenE_normal ?_
      refine WC_ifd rfl (fun h21 => ?_) (fun h21 => ?_)
      · have hsucc := filter_take_succ (fun (y : Mv) => decide (y.p ≠ p)) L k hk15
        rw [if_pos (decide_eq_true h21)] at hsucc
        refine WC_region ?_
        refine WL_x (x_move (v := .slice _ _ _) rfl) ?_
        refine WL_x (x_loadA (n := 3) (vs := (L[k]).enc) Try.underlying85 rfl (by kernel_rfl) rfl rfl (H.rangeAll .zero rfl rfl)) ?_
        refine WL_buildSliceS (s := 3) (z0 := [(.int .i64 0), (.int .u32 0), (.int .u32 0)]) (zero := [(.int .i64 0), (.int .u32 0), (.int .u32 0)]) (cells := (L[k]).enc) (vs := [(0, .agg (List.toArray _))]) Try.underlying51 (by kernel_rfl) (by kernel_rfl) rfl rfl rfl rfl H ?_
        clear H; intro b24 w H
        refine WL_append (i := Try.t85) (bytes := 16) (size := 3) Try.underlying51 (by kernel_rfl) rfl rfl rfl (by kernel_rfl) rfl rfl rfl H (fun _ _ => .succ (.succ .zero)) (rfl) (blk_cells (H.get (Has.mem .zero))) (Mv.one _) (by simp only [maxLen]; omega) (by omega) ?_
        clear H; intro A25 c25 w H
        refine WL_x (x_assign (v := .slice _ _ _) rfl) ?_
        refine WL_nil ?_
        refine inBlockE_normal ?_
        refine thenE_normal ?_
        refine WC_region ?_
        refine WL_x (x_binop rfl rfl (r_add_in (i64_in (by omega) (by omega)))) ?_
        refine WL_x (x_move (v := .int .i64 _) rfl) ?_
        refine WL_nil ?_
        refine thenE_normal ?_
        first
          | (refine ⟨(k + 1, A25, c25), ⟨by simp only; omega, rfl, rfl, rfl, rfl, rfl, ?_, ?_⟩, by simp only; omega⟩
             · simp only; rw [hsucc, List.length_append]; rfl
             · simp only; rw [hsucc, List.length_append, encs_append, encs_one]; exact H.pop.pop)
          | (refine ⟨(k + 1, A2, c2), ⟨by simp only; omega, rfl, rfl, rfl, rfl, rfl, ?_, ?_⟩, by simp only; omega⟩
             · simp only; rw [hsucc]; rfl
             · simp only; rw [hsucc]; exact H.pop)
      · have hsucc := filter_take_succ (fun (y : Mv) => decide (y.p ≠ p)) L k hk15
        rw [if_neg (by simpa using h21), List.append_nil] at hsucc
        refine WC_skip ?_
        refine inBlockE_normal ?_
        refine thenE_normal ?_
        refine WC_region ?_
        refine WL_x (x_binop rfl rfl (r_add_in (i64_in (by omega) (by omega)))) ?_
        refine WL_x (x_move (v := .int .i64 _) rfl) ?_
        refine WL_nil ?_
        refine thenE_normal ?_
        first
          | (refine ⟨(k + 1, A25, c25), ⟨by simp only; omega, rfl, rfl, rfl, rfl, rfl, ?_, ?_⟩, by simp only; omega⟩
             · simp only; rw [hsucc, List.length_append]; rfl
             · simp only; rw [hsucc, List.length_append, encs_append, encs_one]; exact H.pop.pop)
          | (refine ⟨(k + 1, A2, c2), ⟨by simp only; omega, rfl, rfl, rfl, rfl, rfl, ?_, ?_⟩, by simp only; omega⟩
             · simp only; rw [hsucc]; rfl
             · simp only; rw [hsucc]; exact H.pop)
    · obtain rfl : k = L.length := by omega
      rw [List.take_length] at H
      have hR : dropL L p = L.filter (fun (y : Mv) => decide (y.p ≠ p)) := rfl
      rw [List.take_length] at hfl
      refine WC_exit ?_
      refine thenE_exit ?_
      refine thenE_exit ?_
      refine inBlockE_exit ?_
      refine thenE_normal ?_
      refine WC_seq ?_
      refine WC_region ?_
      refine WL_x (x_move (v := .pointer _) rfl) ?_
      refine WL_x (x_nilCheck rfl) ?_
      refine WL_x (x_fieldAddr (n := 0) (o' := 6) Try.underlying53 rfl (by kernel_rfl) rfl rfl) ?_
      first | refine WL_x (x_load (v := .slice _ _ _) Try.underlying51 rfl rfl (H.cellAt .zero rfl)) ?_ | refine WL_x (x_load (v := .slice _ _ _) Try.underlying51 rfl rfl (H.cellAt (.succ .zero) rfl)) ?_ | refine WL_x (x_load (v := .slice _ _ _) Try.underlying51 rfl rfl (H.cellAt (.succ (.succ .zero)) rfl)) ?_ | refine WL_x (x_load (v := .slice _ _ _) Try.underlying51 rfl rfl (H.cellAt (.succ (.succ (.succ .zero))) rfl)) ?_ | refine WL_x (x_load (v := .slice _ _ _) Try.underlying51 rfl rfl (H.cellAt (.succ (.succ (.succ (.succ .zero)))) rfl)) ?_
      refine WL_x (x_len Try.underlying51 rfl) ?_
      have e5 := Nat.le_refl 0
      rw [List.take_length]
      refine WL_x (x_move (v := .slice _ _ _) rfl) ?_
      refine WL_x (x_len Try.underlying51 rfl) ?_
      refine WL_x (x_binop rfl rfl (r_sub_in (i64_in (by omega) (by omega)))) ?_
      refine WL_x (x_assign (v := .int .i64 _) rfl) ?_
      refine WL_nil ?_
      refine thenE_normal ?_
      refine WC_seq ?_
      refine WC_region ?_
      refine WL_x (x_move (v := .pointer _) rfl) ?_
      refine WL_x (x_move (v := .slice _ _ _) rfl) ?_
      refine WL_x (x_nilCheck rfl) ?_
      refine WL_x (x_fieldAddr (n := 0) (o' := 6) Try.underlying53 rfl (by kernel_rfl) rfl rfl) ?_
      refine WL_store (v := .slice A2 (dropL L p).length c2) (l' := gvD g A ca B cb A2 c2 (dropL L p).length tick) Try.underlying51 rfl rfl rfl rfl (by kernel_rfl) H (.succ .zero) (Nat.le_of_ble_eq_true rfl) rfl ?_
      clear H; intro w H
      refine WL_nil ?_
      refine thenE_normal ?_
      refine WC_seq ?_
      refine WC_region ?_
      refine WL_x (x_move (v := .int .i64 _) rfl) ?_
      refine WL_x (x_assign (v := .int .i64 _) rfl) ?_
      refine WL_nil ?_
      refine thenE_normal ?_
      refine WC_ret ?_
      refine ends1 (v := .int .i64 _) Try.results22 rfl ?_
      replace H : St W (refc x g A ca B cb AL cL L tick).fp [row A2 c2 85 3 (dropL L p).length (encs Mv.enc (dropL L p)), blk x (gvD g A ca B cb A2 c2 (dropL L p).length tick) 53, row AL cL 85 3 (L).length (encs Mv.enc L)] [] _ := H
      replace H := (H.perm (List.Perm.swap _ _ _)).joinB
      exact ⟨A2, c2, rfl, H.fr, H.ok _ List.mem_cons_self, fun b hb => H.own _ List.mem_cons_self b hb⟩

def nextR (tick : Int) : Int := IntKind.u32.wrap (tick + 1)
def rtakeP (g : Gm) (L : List Mv) (tk : Int) (k : Nat) : List Int := (List.range k).map fun p => (lookL L ((p : Nat) : Int) tk).getD g.dflt
theorem rtakeP_len (g : Gm) (L : List Mv) (tk : Int) (k : Nat) : (rtakeP g L tk k).length = k := by simp [rtakeP]
theorem rtakeP_succ (g : Gm) (L : List Mv) (tk v : Int) (k : Nat) (h : (lookL L ((k : Nat) : Int) tk).getD g.dflt = v) : rtakeP g L tk (k + 1) = rtakeP g L tk k ++ [v] := by
  subst h
  simp [rtakeP, List.range_succ]
def rtakeL (g : Gm) (L : List Mv) (tick : Int) : List Int := if gameRight g = true then rtakeP g L (nextR tick) g.pl.toNat else []
def rleft (g : Gm) (L : List Mv) (tick : Int) : List Mv := if gameRight g = true then L.filter (fun (y : Mv) => decide (y.t > nextR tick)) else L
set_option maxHeartbeats 2000000 in
theorem rtake_ok (W : World) (x : Nat) (g : Gm) (A B : Option Addr) (ca cb : Nat) (AL : Option Addr) (cL : Nat) (L : List Mv) (tick : Int) (h : (refc x g A ca B cb AL cL L tick).ok W) (hl : L.length ≤ 1000) (hx : Cells W A (encs Cel.enc g.cells)) (hy : Cells W B (encs Cd.enc g.code)) (hg : g.ok) (hd : ∀ b, b ∈ (refc x g A ca B cb AL cL L tick).fp → b ∉ (Go.HW.cells A (encs Cel.enc g.cells)).fp ∧ b ∉ (Go.HW.cells B (encs Cd.enc g.code)).fp) (hpl : gameRight g = true → g.pl ≤ 1000) (ht : 0 ≤ tick ∧ tick ≤ 1000) :
    Calls Try.prog 21 #[.pointer (some ⟨x, 0, none⟩)] W fun e w' => ∃ AL' cL' A2 c2, e = .returned (.slice A2 (rtakeL g L tick).length c2) ∧ Fr (refc x g A ca B cb AL cL L tick).fp W w' ∧ (refc x g A ca B cb AL' cL' (rleft g L tick) (nextR tick)).ok w' ∧ (∀ b, b ∈ (refc x g A ca B cb AL' cL' (rleft g L tick) (nextR tick)).fp → b ∈ (refc x g A ca B cb AL cL L tick).fp ∨ W.heap.size ≤ b) ∧
      (row A2 c2 22 1 (rtakeL g L tick).length (nums .u32 (rtakeL g L tick))).ok w' ∧ (∀ b, b ∈ (row A2 c2 22 1 (rtakeL g L tick).length (nums .u32 (rtakeL g L tick))).fp → W.heap.size ≤ b ∧ b ∉ (refc x g A ca B cb AL' cL' (rleft g L tick) (nextR tick)).fp) := by
  have H : St W (refc x g A ca B cb AL cL L tick).fp [blk x (gvD g A ca B cb AL cL L.length tick) 53, row AL cL 85 3 (L).length (encs Mv.enc L)] [Go.HW.cells A (encs Cel.enc g.cells), Go.HW.cells B (encs Cd.enc g.code)] W := (St.oneRo h (by simp; exact ⟨cells_ok hx, cells_ok hy⟩) (by
    intro d hd' b hb
    simp only [List.mem_cons, List.not_mem_nil, or_false] at hd'
    rcases hd' with rfl | rfl
    · exact (hd b hb).1
    · exact (hd b hb).2)).splitB
  refine calls_enter (N := 84) Try.func21 rfl Try.ntmps21 rfl ?_
  refine WC_seq ?_
  refine WC_region ?_
  refine WL_x (x_assign (v := (.slice none 0 0)) rfl) ?_
  refine WL_nil ?_
  refine thenE_normal ?_
  refine WC_seq ?_
  refine WC_region ?_
  refine WL_x (x_move (v := .pointer _) rfl) ?_
  refine WL_x (x_nilCheck rfl) ?_
  refine WL_x (x_fieldAddr (n := 0) (o' := 7) Try.underlying53 rfl (by kernel_rfl) rfl rfl) ?_
  first | refine WL_x (x_load (v := .int .u32 _) Try.underlying22 rfl rfl (H.cellAt .zero rfl)) ?_ | refine WL_x (x_load (v := .int .u32 _) Try.underlying22 rfl rfl (H.cellAt (.succ .zero) rfl)) ?_ | refine WL_x (x_load (v := .int .u32 _) Try.underlying22 rfl rfl (H.cellAt (.succ (.succ .zero)) rfl)) ?_ | refine WL_x (x_load (v := .int .u32 _) Try.underlying22 rfl rfl (H.cellAt (.succ (.succ (.succ .zero))) rfl)) ?_ | refine WL_x (x_load (v := .int .u32 _) Try.underlying22 rfl rfl (H.cellAt (.succ (.succ (.succ (.succ .zero)))) rfl)) ?_ | refine WL_x (x_load Try.underlying22 rfl rfl (H.rnum .zero (by omega) (by omega))) ?_ | refine WL_x (x_load Try.underlying22 rfl rfl (H.rnum (.succ .zero) (by omega) (by omega))) ?_ | refine WL_x (x_load Try.underlying22 rfl rfl (H.rnum (.succ (.succ .zero)) (by omega) (by omega))) ?_ | refine WL_x (x_load Try.underlying22 rfl rfl (H.onum .zero (by omega) (by omega))) ?_ | refine WL_x (x_load Try.underlying22 rfl rfl (H.onum (.succ .zero) (by omega) (by omega))) ?_ | refine WL_x (x_load Try.underlying22 rfl rfl (H.onum (.succ (.succ .zero)) (by omega) (by omega))) ?_
  refine WL_x (x_binop rfl rfl (r_add _ _ _ _)) ?_
  refine WL_x (x_nilCheck rfl) ?_
  refine WL_x (x_fieldAddr (n := 0) (o' := 7) Try.underlying53 rfl (by kernel_rfl) rfl rfl) ?_
  refine WL_store (v := .int .u32 (nextR tick)) (l' := gvD g A ca B cb AL cL L.length (nextR tick)) Try.underlying22 rfl rfl rfl rfl (by kernel_rfl) H .zero (Nat.le_of_ble_eq_true rfl) rfl ?_
  clear H; intro w H
  refine WL_nil ?_
  refine thenE_normal ?_
  refine WC_seq ?_
  refine WC_seq ?_
  refine WC_region ?_
  refine WL_x (x_move (v := .pointer _) rfl) ?_
  refine WL_x (x_nilCheck rfl) ?_
  refine WL_x (x_fieldAddr (n := 5) (o' := 0) Try.underlying53 rfl (by kernel_rfl) rfl rfl) ?_
  refine WL_x (x_loadA (n := 6) (vs := g.val A ca B cb) Try.underlying49 rfl (by kernel_rfl) rfl rfl (H.range (k := 6) .zero rfl)) ?_
  refine WL_call (vs := [.agg (List.toArray _)]) Try.func30 rfl rfl rfl (r10right_ok _ g A B ca cb hg (H.rget (Has.mem .zero)) (H.rget (Has.mem (.succ .zero)))) ?_
  rintro _ w ⟨rfl, hf⟩
  refine ⟨_, rfl, ?_⟩
  replace H := H.quiet hf
  refine WL_x (x_not rfl) ?_
  refine WL_nil ?_
  refine thenE_normal ?_
  refine WC_if rfl (fun h22 => ?_) (fun h22 => ?_)
  · have hgr : gameRight g = false := by simpa using h22
    have hT : rtakeL g L tick = [] := by unfold rtakeL; rw [hgr]; rfl
    have hLf : rleft g L tick = L := by unfold rleft; rw [hgr]; rfl
    refine WC_seq ?_
    refine WC_region ?_
    refine WL_x (x_assign (v := (.slice none 0 0)) rfl) ?_
    refine WL_nil ?_
    refine thenE_normal ?_
    refine WC_ret ?_
    refine thenE_ret ?_
    refine ends1 (v := .slice _ _ _) Try.results21 rfl ?_
    first
      | (rw [hLf, hT]
         exact ⟨AL, cL, none, 0, rfl, H.fr, H.joinB.ok _ List.mem_cons_self, fun b hb => .inl hb, row_nil _ 22 1, by simp [row]⟩)
      | (have hpl2 := rtakeP_len g L (nextR tick) g.pl.toNat
         replace H : St W (refc x g A ca B cb AL cL L tick).fp [row A3 c3 85 3 (rleft g L tick).length (encs Mv.enc (rleft g L tick)), row A2 c2 22 1 g.pl.toNat (nums .u32 (rtakeP g L (nextR tick) g.pl.toNat)), blk x (gvD g A ca B cb A3 c3 (rleft g L tick).length (nextR tick)) 53, row AL cL 85 3 (L).length (encs Mv.enc L)] [Go.HW.cells A (encs Cel.enc g.cells), Go.HW.cells B (encs Cd.enc g.code)] _ := H
         have H2 := (H.drop (ro' := []) (cs' := [row A3 c3 85 3 (rleft g L tick).length (encs Mv.enc (rleft g L tick)), row A2 c2 22 1 g.pl.toNat (nums .u32 (rtakeP g L (nextR tick) g.pl.toNat)), blk x (gvD g A ca B cb A3 c3 (rleft g L tick).length (nextR tick)) 53]) (.cons_cons _ (.cons_cons _ (.cons_cons _ (List.nil_sublist _)))) (by simp)).perm (((List.Perm.swap _ _ _).cons _).trans ((List.Perm.swap _ _ _)))
         have H3 := H2.joinB
         have H4 := H.perm (List.Perm.swap _ _ _)
         rw [hT, hpl2]
         refine ⟨A3, c3, A2, c2, rfl, H.fr, H3.ok _ List.mem_cons_self, fun b hb => H3.own _ List.mem_cons_self b hb, H.ok _ (Has.mem (.succ .zero)), fun b hb => ⟨?_, fun hm => H3.fst .zero b hm hb⟩⟩
         exact (H4.perm (cs' := _) (List.Perm.refl _)).own _ List.mem_cons_self b hb |>.resolve_left (fun hm => by
           have hs := H.perm (List.Perm.swap _ _ _)
           simp only [refc, both, List.mem_append] at hm
           rcases hm with hm | hm
           · exact hs.fst (.succ .zero) b hb hm
           · exact hs.fst (.succ (.succ .zero)) b hb hm))
  · have hgr : gameRight g = true := by simpa using h22
    replace hpl := hpl hgr
    refine WC_skip ?_
    refine thenE_normal ?_
    refine WC_seq ?_
    refine WC_region ?_
    refine WL_x (x_assign (v := (.slice none 0 0)) rfl) ?_
    refine WL_nil ?_
    refine thenE_normal ?_
    refine WC_seq ?_
    refine WC_seq ?_
    refine WC_region ?_
    refine WL_x (x_assign (v := (.int .i64 0)) rfl) ?_
    refine WL_nil ?_
    refine thenE_normal ?_
    refine WC_block ?_
    refine WC_while (fun (s : Nat × Option Addr × Nat) f w' => s.1 ≤ g.pl.toNat ∧ f 4 = .int .i64 s.1 ∧ f 0 = .pointer (some ⟨x, 0, none⟩) ∧ f 3 = .slice s.2.1 s.1 s.2.2 ∧ St W (refc x g A ca B cb AL cL L tick).fp [row s.2.1 s.2.2 22 1 s.1 (nums .u32 (rtakeP g L (nextR tick) s.1)), blk x (gvD g A ca B cb AL cL L.length (nextR tick)) 53, row AL cL 85 3 (L).length (encs Mv.enc L)] [Go.HW.cells A (encs Cel.enc g.cells), Go.HW.cells B (encs Cd.enc g.code)] w') (fun s => g.pl.toNat - s.1) (s0 := (0, none, 0)) ?_ ?_
    · exact ⟨Nat.zero_le _, rfl, rfl, rfl, H.nilRow 22 1⟩
    · clear H
      rintro ⟨k, A2, c2⟩ f w ⟨hk, h4, h0, h3, H⟩
      simp only at hk h4 h0 h3 H
      rw [← upd_self h4, ← upd_self h0, ← upd_self h3]
      refine WC_seq ?_
      refine WC_seq ?_
      refine WC_region ?_
      refine WL_x (x_move (v := .int .i64 _) rfl) ?_
      refine WL_x (x_move (v := .pointer _) rfl) ?_
      refine WL_x (x_nilCheck rfl) ?_
      refine WL_x (x_fieldAddr (n := 5) (o' := 0) Try.underlying53 rfl (by kernel_rfl) rfl rfl) ?_
      refine WL_x (x_fieldAddr (n := 0) (o' := 1) Try.underlying49 rfl (by kernel_rfl) rfl rfl) ?_
      first | refine WL_x (x_load (v := .int .i64 _) Try.underlying3 rfl rfl (H.cellAt .zero rfl)) ?_ | refine WL_x (x_load (v := .int .i64 _) Try.underlying3 rfl rfl (H.cellAt (.succ .zero) rfl)) ?_ | refine WL_x (x_load (v := .int .i64 _) Try.underlying3 rfl rfl (H.cellAt (.succ (.succ .zero)) rfl)) ?_ | refine WL_x (x_load (v := .int .i64 _) Try.underlying3 rfl rfl (H.cellAt (.succ (.succ (.succ .zero))) rfl)) ?_ | refine WL_x (x_load (v := .int .i64 _) Try.underlying3 rfl rfl (H.cellAt (.succ (.succ (.succ (.succ .zero)))) rfl)) ?_ | refine WL_x (x_load Try.underlying3 rfl rfl (H.rnum .zero (by omega) (by omega))) ?_ | refine WL_x (x_load Try.underlying3 rfl rfl (H.rnum (.succ .zero) (by omega) (by omega))) ?_ | refine WL_x (x_load Try.underlying3 rfl rfl (H.rnum (.succ (.succ .zero)) (by omega) (by omega))) ?_ | refine WL_x (x_load Try.underlying3 rfl rfl (H.onum .zero (by omega) (by omega))) ?_ | refine WL_x (x_load Try.underlying3 rfl rfl (H.onum (.succ .zero) (by omega) (by omega))) ?_ | refine WL_x (x_load Try.underlying3 rfl rfl (H.onum (.succ (.succ .zero)) (by omega) (by omega))) ?_
      refine WL_x (x_binop rfl rfl (r_lss _ _ _ _)) ?_
      refine WL_nil ?_
      refine thenE_normal ?_
      refine WC_ifd rfl (fun h29 => ?_) (fun h29 => ?_)
      · have hk29 : k < g.pl.toNat := by omega
        refine WC_skip ?_
        refine thenE_normal ?_
        refine WC_seq ?_
        refine WC_block ?_
        refine WC_seq ?_
        refine WC_region ?_
        refine WL_x (x_move (v := .pointer _) rfl) ?_
        refine WL_x (x_nilCheck rfl) ?_
        refine WL_x (x_fieldAddr (n := 5) (o' := 0) Try.underlying53 rfl (by kernel_rfl) rfl rfl) ?_
        refine WL_x (x_fieldAddr (n := 0) (o' := 3) Try.underlying49 rfl (by kernel_rfl) rfl rfl) ?_
        first | refine WL_x (x_load (v := .int .u32 _) Try.underlying22 rfl rfl (H.cellAt .zero rfl)) ?_ | refine WL_x (x_load (v := .int .u32 _) Try.underlying22 rfl rfl (H.cellAt (.succ .zero) rfl)) ?_ | refine WL_x (x_load (v := .int .u32 _) Try.underlying22 rfl rfl (H.cellAt (.succ (.succ .zero)) rfl)) ?_ | refine WL_x (x_load (v := .int .u32 _) Try.underlying22 rfl rfl (H.cellAt (.succ (.succ (.succ .zero))) rfl)) ?_ | refine WL_x (x_load (v := .int .u32 _) Try.underlying22 rfl rfl (H.cellAt (.succ (.succ (.succ (.succ .zero)))) rfl)) ?_ | refine WL_x (x_load Try.underlying22 rfl rfl (H.rnum .zero (by omega) (by omega))) ?_ | refine WL_x (x_load Try.underlying22 rfl rfl (H.rnum (.succ .zero) (by omega) (by omega))) ?_ | refine WL_x (x_load Try.underlying22 rfl rfl (H.rnum (.succ (.succ .zero)) (by omega) (by omega))) ?_ | refine WL_x (x_load Try.underlying22 rfl rfl (H.onum .zero (by omega) (by omega))) ?_ | refine WL_x (x_load Try.underlying22 rfl rfl (H.onum (.succ .zero) (by omega) (by omega))) ?_ | refine WL_x (x_load Try.underlying22 rfl rfl (H.onum (.succ (.succ .zero)) (by omega) (by omega))) ?_
        refine WL_x (x_assign (v := .int .u32 _) rfl) ?_
        refine WL_nil ?_
        refine thenE_normal ?_
        refine WC_seq ?_
        refine WC_seq ?_
        refine WC_region ?_
        refine WL_x (x_move (v := .pointer _) rfl) ?_
        refine WL_x (x_move (v := .int .i64 _) rfl) ?_
        refine WL_x (x_move (v := .pointer _) rfl) ?_
        refine WL_x (x_nilCheck rfl) ?_
        refine WL_x (x_fieldAddr (n := 0) (o' := 7) Try.underlying53 rfl (by kernel_rfl) rfl rfl) ?_
        first | refine WL_x (x_load (v := .int .u32 _) Try.underlying22 rfl rfl (H.cellAt .zero rfl)) ?_ | refine WL_x (x_load (v := .int .u32 _) Try.underlying22 rfl rfl (H.cellAt (.succ .zero) rfl)) ?_ | refine WL_x (x_load (v := .int .u32 _) Try.underlying22 rfl rfl (H.cellAt (.succ (.succ .zero)) rfl)) ?_ | refine WL_x (x_load (v := .int .u32 _) Try.underlying22 rfl rfl (H.cellAt (.succ (.succ (.succ .zero))) rfl)) ?_ | refine WL_x (x_load (v := .int .u32 _) Try.underlying22 rfl rfl (H.cellAt (.succ (.succ (.succ (.succ .zero)))) rfl)) ?_ | refine WL_x (x_load Try.underlying22 rfl rfl (H.rnum .zero (by omega) (by omega))) ?_ | refine WL_x (x_load Try.underlying22 rfl rfl (H.rnum (.succ .zero) (by omega) (by omega))) ?_ | refine WL_x (x_load Try.underlying22 rfl rfl (H.rnum (.succ (.succ .zero)) (by omega) (by omega))) ?_ | refine WL_x (x_load Try.underlying22 rfl rfl (H.onum .zero (by omega) (by omega))) ?_ | refine WL_x (x_load Try.underlying22 rfl rfl (H.onum (.succ .zero) (by omega) (by omega))) ?_ | refine WL_x (x_load Try.underlying22 rfl rfl (H.onum (.succ (.succ .zero)) (by omega) (by omega))) ?_
        refine WL_call (vs := [.pointer _, .int .i64 _, .int .u32 _]) Try.func31 rfl rfl rfl (at_ok _ x g A B ca cb AL cL L (nextR tick) (k : Nat) (nextR tick) (H.pop.joinB.ok _ List.mem_cons_self) hl) ?_
        rintro _ w ⟨r, rfl, hf, hok, hr⟩
        refine ⟨_, rfl, ?_⟩
        replace H := (H.perm (List.perm_append_comm (l₁ := [row A2 c2 22 1 k (nums .u32 (rtakeP g L (nextR tick) k))]) (l₂ := [blk x (gvD g A ca B cb AL cL L.length (nextR tick)) 53, row AL cL 85 3 (L).length (encs Mv.enc L)]))).joinB
        replace H := H.turn .zero hf (fun _ h => .inl h) hok (fun _ h => .inl h)
        replace H := (H.splitB).perm (List.perm_append_comm (l₁ := [blk x (gvD g A ca B cb AL cL L.length (nextR tick)) 53, row AL cL 85 3 (L).length (encs Mv.enc L)]) (l₂ := [row A2 c2 22 1 k (nums .u32 (rtakeP g L (nextR tick) k))]))
        refine WL_x (x_assign (v := .int .i64 _) rfl) ?_
        refine WL_nil ?_
        refine thenE_normal ?_
        refine WC_seq ?_
        refine WC_region ?_
        refine WL_x (x_move (v := .int .i64 _) rfl) ?_
        refine WL_x (x_binop rfl rfl (r_geq _ _ _ _)) ?_
        refine WL_nil ?_
        refine thenE_normal ?_
        refine WC_ifd rfl (fun h45 => ?_) (fun h45 => ?_)
        · obtain ⟨q, hq, rfl, hlk⟩ : ∃ (q : Nat) (hq : q < L.length), r = q ∧ lookL L (k : Nat) (nextR tick) = some (L[q]).m := by
            rcases hr with ⟨rfl, _⟩ | hr
            · omega
            · exact hr
          refine WC_region ?_
          refine WL_x (x_move (v := .pointer _) rfl) ?_
          refine WL_x (x_nilCheck rfl) ?_
          refine WL_x (x_fieldAddr (n := 0) (o' := 6) Try.underlying53 rfl (by kernel_rfl) rfl rfl) ?_
          first | refine WL_x (x_load (v := .slice _ _ _) Try.underlying51 rfl rfl (H.cellAt .zero rfl)) ?_ | refine WL_x (x_load (v := .slice _ _ _) Try.underlying51 rfl rfl (H.cellAt (.succ .zero) rfl)) ?_ | refine WL_x (x_load (v := .slice _ _ _) Try.underlying51 rfl rfl (H.cellAt (.succ (.succ .zero)) rfl)) ?_ | refine WL_x (x_load (v := .slice _ _ _) Try.underlying51 rfl rfl (H.cellAt (.succ (.succ (.succ .zero))) rfl)) ?_ | refine WL_x (x_load (v := .slice _ _ _) Try.underlying51 rfl rfl (H.cellAt (.succ (.succ (.succ (.succ .zero)))) rfl)) ?_
          refine WL_x (x_move (v := .int .i64 _) rfl) ?_
          refine WL_x (x_indexAddr (s := 3) Try.underlying51 (by kernel_rfl) rfl rfl (by omega) (by omega) (H.osome (l := encs Mv.enc L) (.succ (.succ .zero)) (by rw [encs_length Mv.enc Mv.len]; omega)) rfl) ?_
          refine WL_x (x_fieldAddr (n := 0) (o' := _ + 2) Try.underlying85 rfl (by kernel_rfl) rfl rfl) ?_
          refine WL_x (x_load (v := .int .u32 _) Try.underlying22 rfl rfl (by rw [Nat.add_assoc]; exact H.ocell (v := .int .u32 (L[q]).m) (.succ (.succ .zero)) (by rw [Int.toNat_natCast]; exact encs_at Mv.enc Mv.len L q 2 hq (by omega)))) ?_
          refine WL_x (x_assign (v := .int .u32 _) rfl) ?_
          refine WL_nil ?_
          refine thenE_normal ?_
          refine WC_region ?_
          refine WL_x (x_move (v := .slice _ _ _) rfl) ?_
          refine WL_x (x_move (v := .int .u32 _) rfl) ?_
          refine WL_buildSliceS (s := 1) (z0 := [(.int .u32 0)]) (zero := [(.int .u32 0)]) (cells := [_]) (vs := [(0, .int .u32 _)]) Try.underlying33 (by kernel_rfl) (by kernel_rfl) rfl rfl rfl rfl H ?_
          clear H; intro b56 w H
          refine WL_append (i := Try.t22) (bytes := 4) (size := 1) Try.underlying33 (by kernel_rfl) rfl rfl rfl (by kernel_rfl) rfl rfl rfl H (fun _ _ => .succ .zero) (rfl) (blk_cells (H.get (Has.mem .zero))) (by simp [Value.oneCell']) (by simp only [maxLen]; omega) (by omega) ?_
          clear H; intro A57 c57 w H
          replace H := H.pop
          first
            | rw [append_one, ← rtakeP_succ g L (nextR tick) (L[q]).m k (by rw [hlk]; rfl)] at H
            | rw [append_one, ← rtakeP_succ g L (nextR tick) g.dflt k (by rw [hlk]; rfl)] at H
          refine WL_x (x_assign (v := .slice _ _ _) rfl) ?_
          refine WL_nil ?_
          refine inBlockE_normal ?_
          refine thenE_normal ?_
          refine WC_region ?_
          refine WL_x (x_move (v := .int .i64 _) rfl) ?_
          refine WL_x (x_binop rfl rfl (r_add_in (i64_in (by omega) (by omega)))) ?_
          refine WL_x (x_assign (v := .int .i64 _) rfl) ?_
          refine WL_nil ?_
          refine thenE_normal ?_
          refine ⟨(k + 1, A57, c57), ⟨by simp only; omega, rfl, rfl, rfl, ?_⟩, by simp only; omega⟩
          simp only
          exact H
        · have hlk : lookL L (k : Nat) (nextR tick) = none := by
            rcases hr with ⟨_, hr⟩ | ⟨q, _, rfl, _⟩
            · exact hr
            · omega
          refine WC_skip ?_
          refine thenE_normal ?_
          refine WC_region ?_
          refine WL_x (x_move (v := .slice _ _ _) rfl) ?_
          refine WL_x (x_move (v := .int .u32 _) rfl) ?_
          refine WL_buildSliceS (s := 1) (z0 := [(.int .u32 0)]) (zero := [(.int .u32 0)]) (cells := [_]) (vs := [(0, .int .u32 _)]) Try.underlying33 (by kernel_rfl) (by kernel_rfl) rfl rfl rfl rfl H ?_
          clear H; intro b56 w H
          refine WL_append (i := Try.t22) (bytes := 4) (size := 1) Try.underlying33 (by kernel_rfl) rfl rfl rfl (by kernel_rfl) rfl rfl rfl H (fun _ _ => .succ .zero) (rfl) (blk_cells (H.get (Has.mem .zero))) (by simp [Value.oneCell']) (by simp only [maxLen]; omega) (by omega) ?_
          clear H; intro A57 c57 w H
          replace H := H.pop
          first
            | rw [append_one, ← rtakeP_succ g L (nextR tick) (L[q]).m k (by rw [hlk]; rfl)] at H
            | rw [append_one, ← rtakeP_succ g L (nextR tick) g.dflt k (by rw [hlk]; rfl)] at H
          refine WL_x (x_assign (v := .slice _ _ _) rfl) ?_
          refine WL_nil ?_
          refine inBlockE_normal ?_
          refine thenE_normal ?_
          refine WC_region ?_
          refine WL_x (x_move (v := .int .i64 _) rfl) ?_
          refine WL_x (x_binop rfl rfl (r_add_in (i64_in (by omega) (by omega)))) ?_
          refine WL_x (x_assign (v := .int .i64 _) rfl) ?_
          refine WL_nil ?_
          refine thenE_normal ?_
          refine ⟨(k + 1, A57, c57), ⟨by simp only; omega, rfl, rfl, rfl, ?_⟩, by simp only; omega⟩
          simp only
          exact H
      · obtain rfl : k = g.pl.toNat := by omega
        refine WC_exit ?_
        refine thenE_exit ?_
        refine thenE_exit ?_
        refine inBlockE_exit ?_
        refine thenE_normal ?_
        refine WC_seq ?_
        refine WC_region ?_
        refine WL_x (x_assign (v := (.slice none 0 0)) rfl) ?_
        refine WL_nil ?_
        refine thenE_normal ?_
        refine WC_seq ?_
        refine WC_seq ?_
        refine WC_region ?_
        refine WL_x (x_move (v := .pointer _) rfl) ?_
        refine WL_x (x_nilCheck rfl) ?_
        refine WL_x (x_fieldAddr (n := 0) (o' := 6) Try.underlying53 rfl (by kernel_rfl) rfl rfl) ?_
        first | refine WL_x (x_load (v := .slice _ _ _) Try.underlying51 rfl rfl (H.cellAt .zero rfl)) ?_ | refine WL_x (x_load (v := .slice _ _ _) Try.underlying51 rfl rfl (H.cellAt (.succ .zero) rfl)) ?_ | refine WL_x (x_load (v := .slice _ _ _) Try.underlying51 rfl rfl (H.cellAt (.succ (.succ .zero)) rfl)) ?_ | refine WL_x (x_load (v := .slice _ _ _) Try.underlying51 rfl rfl (H.cellAt (.succ (.succ (.succ .zero))) rfl)) ?_ | refine WL_x (x_load (v := .slice _ _ _) Try.underlying51 rfl rfl (H.cellAt (.succ (.succ (.succ (.succ .zero)))) rfl)) ?_
        refine WL_x (x_len Try.underlying51 rfl) ?_
        refine WL_x (x_move (v := (.int .i64 0)) rfl) ?_
        refine WL_nil ?_
        refine thenE_normal ?_
        refine WC_block ?_
        refine WC_while (fun (s : Nat × Option Addr × Nat) f w' => s.1 ≤ L.length ∧ f 63 = .int .i64 s.1 ∧ f 62 = .int .i64 L.length ∧ f 61 = .slice AL L.length cL ∧ f 0 = .pointer (some ⟨x, 0, none⟩) ∧ f 3 = .slice A2 g.pl.toNat c2 ∧ f 7 = .slice s.2.1 (((L.take s.1).filter (fun (y : Mv) => decide (y.t > nextR tick)))).length s.2.2 ∧ St W (refc x g A ca B cb AL cL L tick).fp [row s.2.1 s.2.2 85 3 (((L.take s.1).filter (fun (y : Mv) => decide (y.t > nextR tick)))).length (encs Mv.enc (((L.take s.1).filter (fun (y : Mv) => decide (y.t > nextR tick))))), row A2 c2 22 1 g.pl.toNat (nums .u32 (rtakeP g L (nextR tick) g.pl.toNat)), blk x (gvD g A ca B cb AL cL L.length (nextR tick)) 53, row AL cL 85 3 (L).length (encs Mv.enc L)] [Go.HW.cells A (encs Cel.enc g.cells), Go.HW.cells B (encs Cd.enc g.code)] w') (fun s => L.length - s.1) (s0 := (0, none, 0)) ?_ ?_
        · exact ⟨Nat.zero_le _, rfl, rfl, rfl, rfl, rfl, rfl, H.nilRow 85 3⟩
        · clear H
          rintro ⟨k, A3, c3⟩ f w ⟨hk, h63, h62, h61, h0, h3, h7, H⟩
          simp only at hk h63 h62 h61 h0 h3 h7 H
          rw [← upd_self h63, ← upd_self h62, ← upd_self h61, ← upd_self h0, ← upd_self h3, ← upd_self h7]
          have hfl := filter_take_len (fun (y : Mv) => decide (y.t > nextR tick)) L k
          refine WC_seq ?_
          refine WC_region ?_
          refine WL_x (x_binop rfl rfl (r_lss _ _ _ _)) ?_
          refine WL_nil ?_
          refine thenE_normal ?_
          refine WC_seq ?_
          refine WC_ifd rfl (fun h64 => ?_) (fun h64 => ?_)
          · have hk64 : k < L.length := by omega
            refine WC_skip ?_
            refine thenE_normal ?_
            refine WC_seq ?_
            refine WC_block ?_
            refine WC_seq ?_
            refine WC_region ?_
            refine WL_x (x_indexAddr (s := 3) Try.underlying51 (by kernel_rfl) rfl rfl (by omega) (by omega) (H.osome (l := encs Mv.enc L) (.succ (.succ (.succ .zero))) (by rw [encs_length Mv.enc Mv.len]; omega)) rfl) ?_
            refine WL_x (x_loadA (n := 3) (vs := (L[k]).enc) Try.underlying85 rfl (by kernel_rfl) rfl rfl (H.orange (k := 3) (.succ (.succ (.succ .zero))) (by rw [Int.toNat_natCast]; exact encs_get Mv.enc Mv.len L k hk64))) ?_
            refine WL_alloc (l := [(.int .i64 0), (.int .u32 0), (.int .u32 0)]) (by kernel_rfl) H ?_
            clear H; intro b9 w H
            first | refine WL_storeA rfl rfl rfl (by kernel_rfl) H .zero (Nat.le_of_ble_eq_true rfl) (splice_all _ _ rfl) ?_ | refine WL_storeA rfl rfl rfl (by kernel_rfl) H (.succ .zero) (Nat.le_of_ble_eq_true rfl) (splice_all _ _ rfl) ?_ | refine WL_storeA rfl rfl rfl (by kernel_rfl) H (.succ (.succ .zero)) (Nat.le_of_ble_eq_true rfl) (splice_all _ _ rfl) ?_ | refine WL_storeA rfl rfl rfl (by kernel_rfl) H (.succ (.succ (.succ .zero))) (Nat.le_of_ble_eq_true rfl) (splice_all _ _ rfl) ?_ | refine WL_storeA rfl rfl rfl (by kernel_rfl) H (.succ (.succ (.succ (.succ .zero)))) (Nat.le_of_ble_eq_true rfl) (splice_all _ _ rfl) ?_
            clear H; intro w H
            refine WL_nil ?_
            refine thenE_normal ?_
            refine WC_seq ?_
            refine WC_drawH (m := 7) (listed := [false, false, false, false, false, false, false]) 7 (by kernel_rfl) rfl rfl H ?_
            intro w H
            refine WG_take (i := 0) (listed' := [true, false, false, false, false, false, false]) rfl (by kernel_rfl) (fun w H => x_fieldAddr (n := 0) (o' := 1) Try.underlying85 rfl (by kernel_rfl) rfl rfl) H rfl ?_
            refine WG_take (i := 1) (listed' := [true, true, false, false, false, false, false]) rfl (by kernel_rfl) (fun w H => x_load (v := .int .u32 _) Try.underlying22 rfl rfl (H.cellAt (l := (L[k]).enc) .zero rfl)) H rfl ?_
            refine WG_take (i := 2) (listed' := [true, true, true, false, false, false, false]) rfl (by kernel_rfl) (fun w H => x_move (v := .pointer _) rfl) H rfl ?_
            refine WG_take (i := 3) (listed' := [true, true, true, true, false, false, false]) rfl (by kernel_rfl) (fun w H => x_nilCheck rfl) H rfl ?_
            refine WG_take (i := 4) (listed' := [true, true, true, true, true, false, false]) rfl (by kernel_rfl) (fun w H => x_fieldAddr (n := 0) (o' := 7) Try.underlying53 rfl (by kernel_rfl) rfl rfl) H rfl ?_
            first | refine WG_take (i := 5) (listed' := [true, true, true, true, true, true, false]) rfl (by kernel_rfl) (fun w H => x_load (v := .int .u32 _) Try.underlying22 rfl rfl (H.cellAt .zero rfl)) H rfl ?_ | refine WG_take (i := 5) (listed' := [true, true, true, true, true, true, false]) rfl (by kernel_rfl) (fun w H => x_load (v := .int .u32 _) Try.underlying22 rfl rfl (H.cellAt (.succ .zero) rfl)) H rfl ?_ | refine WG_take (i := 5) (listed' := [true, true, true, true, true, true, false]) rfl (by kernel_rfl) (fun w H => x_load (v := .int .u32 _) Try.underlying22 rfl rfl (H.cellAt (.succ (.succ .zero)) rfl)) H rfl ?_ | refine WG_take (i := 5) (listed' := [true, true, true, true, true, true, false]) rfl (by kernel_rfl) (fun w H => x_load (v := .int .u32 _) Try.underlying22 rfl rfl (H.cellAt (.succ (.succ (.succ .zero))) rfl)) H rfl ?_ | refine WG_take (i := 5) (listed' := [true, true, true, true, true, true, false]) rfl (by kernel_rfl) (fun w H => x_load (v := .int .u32 _) Try.underlying22 rfl rfl (H.cellAt (.succ (.succ (.succ (.succ .zero)))) rfl)) H rfl ?_ | refine WG_take (i := 5) (listed' := [true, true, true, true, true, true, false]) rfl (by kernel_rfl) (fun w H => x_load Try.underlying22 rfl rfl (H.rnum .zero (by omega) (by omega))) H rfl ?_ | refine WG_take (i := 5) (listed' := [true, true, true, true, true, true, false]) rfl (by kernel_rfl) (fun w H => x_load Try.underlying22 rfl rfl (H.rnum (.succ .zero) (by omega) (by omega))) H rfl ?_ | refine WG_take (i := 5) (listed' := [true, true, true, true, true, true, false]) rfl (by kernel_rfl) (fun w H => x_load Try.underlying22 rfl rfl (H.rnum (.succ (.succ .zero)) (by omega) (by omega))) H rfl ?_ | refine WG_take (i := 5) (listed' := [true, true, true, true, true, true, false]) rfl (by kernel_rfl) (fun w H => x_load Try.underlying22 rfl rfl (H.onum .zero (by omega) (by omega))) H rfl ?_ | refine WG_take (i := 5) (listed' := [true, true, true, true, true, true, false]) rfl (by kernel_rfl) (fun w H => x_load Try.underlying22 rfl rfl (H.onum (.succ .zero) (by omega) (by omega))) H rfl ?_ | refine WG_take (i := 5) (listed' := [true, true, true, true, true, true, false]) rfl (by kernel_rfl) (fun w H => x_load Try.underlying22 rfl rfl (H.onum (.succ (.succ .zero)) (by omega) (by omega))) H rfl ?_
            refine WG_take (i := 6) (listed' := [true, true, true, true, true, true, true]) rfl (by kernel_rfl) (fun w H => x_binop rfl rfl (r_gtr _ _ _ _)) H rfl ?_
            refine WG_done (by kernel_rfl) ?_
            refine thenE_normal ?_
            refine WC_ifd rfl (fun h73 => ?_) (fun h73 => ?_)
            · have hsucc := filter_take_succ (fun (y : Mv) => decide (y.t > nextR tick)) L k hk64
              rw [if_pos (decide_eq_true h73)] at hsucc
              refine WC_region ?_
              refine WL_x (x_move (v := .slice _ _ _) rfl) ?_
              refine WL_x (x_loadA (n := 3) (vs := (L[k]).enc) Try.underlying85 rfl (by kernel_rfl) rfl rfl (H.rangeAll .zero rfl rfl)) ?_
              refine WL_buildSliceS (s := 3) (z0 := [(.int .i64 0), (.int .u32 0), (.int .u32 0)]) (zero := [(.int .i64 0), (.int .u32 0), (.int .u32 0)]) (cells := (L[k]).enc) (vs := [(0, .agg (List.toArray _))]) Try.underlying51 (by kernel_rfl) (by kernel_rfl) rfl rfl rfl rfl H ?_
              clear H; intro b76 w H
              refine WL_append (i := Try.t85) (bytes := 16) (size := 3) Try.underlying51 (by kernel_rfl) rfl rfl rfl (by kernel_rfl) rfl rfl rfl H (fun _ _ => .succ (.succ .zero)) (rfl) (blk_cells (H.get (Has.mem .zero))) (Mv.one _) (by simp only [maxLen]; omega) (by omega) ?_
              clear H; intro A77 c77 w H
              refine WL_x (x_assign (v := .slice _ _ _) rfl) ?_
              refine WL_nil ?_
              refine inBlockE_normal ?_
              refine thenE_normal ?_
              refine WC_region ?_
              refine WL_x (x_binop rfl rfl (r_add_in (i64_in (by omega) (by omega)))) ?_
              refine WL_x (x_move (v := .int .i64 _) rfl) ?_
              refine WL_nil ?_
              refine thenE_normal ?_
              first
                | (refine ⟨(k + 1, A77, c77), ⟨by simp only; omega, rfl, rfl, rfl, rfl, rfl, ?_, ?_⟩, by simp only; omega⟩
                   · simp only; rw [hsucc, List.length_append]; rfl
                   · simp only; rw [hsucc, List.length_append, encs_append, encs_one]; exact H.pop.pop)
                | (refine ⟨(k + 1, A3, c3), ⟨by simp only; omega, rfl, rfl, rfl, rfl, rfl, ?_, ?_⟩, by simp only; omega⟩
                   · simp only; rw [hsucc]; rfl
                   · simp only; rw [hsucc]; exact H.pop)
            · have hsucc := filter_take_succ (fun (y : Mv) => decide (y.t > nextR tick)) L k hk64
              rw [if_neg (by simpa using h73), List.append_nil] at hsucc
              refine WC_skip ?_
              refine inBlockE_normal ?_
              refine thenE_normal ?_
              refine WC_region ?_
              refine WL_x (x_binop rfl rfl (r_add_in (i64_in (by omega) (by omega)))) ?_
              refine WL_x (x_move (v := .int .i64 _) rfl) ?_
              refine WL_nil ?_
              refine thenE_normal ?_
              first
                | (refine ⟨(k + 1, A77, c77), ⟨by simp only; omega, rfl, rfl, rfl, rfl, rfl, ?_, ?_⟩, by simp only; omega⟩
                   · simp only; rw [hsucc, List.length_append]; rfl
                   · simp only; rw [hsucc, List.length_append, encs_append, encs_one]; exact H.pop.pop)
                | (refine ⟨(k + 1, A3, c3), ⟨by simp only; omega, rfl, rfl, rfl, rfl, rfl, ?_, ?_⟩, by simp only; omega⟩
                   · simp only; rw [hsucc]; rfl
                   · simp only; rw [hsucc]; exact H.pop)
          · obtain rfl : k = L.length := by omega
            rw [List.take_length] at H
            have hLf : rleft g L tick = L.filter (fun (y : Mv) => decide (y.t > nextR tick)) := by unfold rleft; rw [hgr]; rfl
            have hT : rtakeL g L tick = rtakeP g L (nextR tick) g.pl.toNat := by unfold rtakeL; rw [hgr]; rfl
            rw [← hLf] at H
            refine WC_exit ?_
            refine thenE_exit ?_
            refine thenE_exit ?_
            refine inBlockE_exit ?_
            refine thenE_normal ?_
            refine WC_seq ?_
            refine WC_region ?_
            refine WL_x (x_move (v := .pointer _) rfl) ?_
            rw [List.take_length, ← hLf]
            refine WL_x (x_move (v := .slice _ _ _) rfl) ?_
            refine WL_x (x_nilCheck rfl) ?_
            refine WL_x (x_fieldAddr (n := 0) (o' := 6) Try.underlying53 rfl (by kernel_rfl) rfl rfl) ?_
            refine WL_store (v := .slice A3 (rleft g L tick).length c3) (l' := gvD g A ca B cb A3 c3 (rleft g L tick).length (nextR tick)) Try.underlying51 rfl rfl rfl rfl (by kernel_rfl) H (.succ (.succ .zero)) (Nat.le_of_ble_eq_true rfl) rfl ?_
            clear H; intro w H
            refine WL_nil ?_
            refine thenE_normal ?_
            refine WC_seq ?_
            refine WC_region ?_
            refine WL_x (x_move (v := .slice _ _ _) rfl) ?_
            refine WL_x (x_assign (v := .slice _ _ _) rfl) ?_
            refine WL_nil ?_
            refine thenE_normal ?_
            refine WC_ret ?_
            refine ends1 (v := .slice _ _ _) Try.results21 rfl ?_
            first
              | (rw [hLf, hT]
                 exact ⟨AL, cL, none, 0, rfl, H.fr, H.joinB.ok _ List.mem_cons_self, fun b hb => .inl hb, row_nil _ 22 1, by simp [row]⟩)
              | (have hpl2 := rtakeP_len g L (nextR tick) g.pl.toNat
                 replace H : St W (refc x g A ca B cb AL cL L tick).fp [row A3 c3 85 3 (rleft g L tick).length (encs Mv.enc (rleft g L tick)), row A2 c2 22 1 g.pl.toNat (nums .u32 (rtakeP g L (nextR tick) g.pl.toNat)), blk x (gvD g A ca B cb A3 c3 (rleft g L tick).length (nextR tick)) 53, row AL cL 85 3 (L).length (encs Mv.enc L)] [Go.HW.cells A (encs Cel.enc g.cells), Go.HW.cells B (encs Cd.enc g.code)] _ := H
                 have H2 := (H.drop (ro' := []) (cs' := [row A3 c3 85 3 (rleft g L tick).length (encs Mv.enc (rleft g L tick)), row A2 c2 22 1 g.pl.toNat (nums .u32 (rtakeP g L (nextR tick) g.pl.toNat)), blk x (gvD g A ca B cb A3 c3 (rleft g L tick).length (nextR tick)) 53]) (.cons_cons _ (.cons_cons _ (.cons_cons _ (List.nil_sublist _)))) (by simp)).perm (((List.Perm.swap _ _ _).cons _).trans ((List.Perm.swap _ _ _)))
                 have H3 := H2.joinB
                 have H4 := H.perm (List.Perm.swap _ _ _)
                 rw [hT, hpl2]
                 refine ⟨A3, c3, A2, c2, rfl, H.fr, H3.ok _ List.mem_cons_self, fun b hb => H3.own _ List.mem_cons_self b hb, H.ok _ (Has.mem (.succ .zero)), fun b hb => ⟨?_, fun hm => H3.fst .zero b hm hb⟩⟩
                 exact (H4.perm (cs' := _) (List.Perm.refl _)).own _ List.mem_cons_self b hb |>.resolve_left (fun hm => by
                   have hs := H.perm (List.Perm.swap _ _ _)
                   simp only [refc, both, List.mem_append] at hm
                   rcases hm with hm | hm
                   · exact hs.fst (.succ .zero) b hb hm
                   · exact hs.fst (.succ (.succ .zero)) b hb hm))
end Go.Proofs.Ytecdgmdkepiopaa
