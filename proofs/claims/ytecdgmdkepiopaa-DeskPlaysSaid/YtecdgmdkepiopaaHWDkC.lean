import Derived.Test.YtecdgmdkepiopaaHWDkB
set_option linter.unusedSimpArgs false
set_option linter.unusedVariables false
set_option linter.unusedSectionVars false
namespace Go.Proofs.Ytecdgmdkepiopaa
open Go Go.HW Go.RowKit
attribute [local irreducible] WL WC WG wpList Code.wp

theorem Cel.one (x : Cel) : ∀ v, v ∈ x.enc → v.oneCell' = true := by
  intro v hv; simp [Cel.enc] at hv; rcases hv with rfl | rfl <;> rfl
theorem Cd.one (x : Cd) : ∀ v, v ∈ x.enc → v.oneCell' = true := by
  intro v hv; simp [Cd.enc] at hv; rcases hv with rfl | rfl | rfl | rfl | rfl | rfl <;> rfl
def fewG (g : Gm) : Gm := { g with cells := g.cells.take 55, code := g.code.take 100 }
theorem fewG_ok (g : Gm) (h : g.ok) : (fewG g).ok := ⟨h.obs0, h.obs1, h.pl0, h.pl1, h.moves0, h.moves1, h.dflt0, h.dflt1, fun c hc => h.code c (List.mem_of_mem_take hc), by have := h.nc; simp only [fewG, List.length_take]; omega, by have := h.nd; simp only [fewG, List.length_take]; omega⟩
/-- a game's slices, read alone -/
def gameR (g : Gm) (A : Option Addr) (B : Option Addr) : List Ck := [Go.HW.cells A (encs Cel.enc g.cells), Go.HW.cells B (encs Cd.enc g.code)]

theorem few_ok (W : World) (g : Gm) (A B : Option Addr) (ca cb : Nat) (hg : g.ok) (hca : g.cells.length ≤ ca) (hcb : g.code.length ≤ cb) (hx : Cells W A (encs Cel.enc g.cells)) (hy : Cells W B (encs Cd.enc g.code)) :
    Calls Try.prog 10 #[.agg (g.val A ca B cb).toArray] W fun e w' => ∃ A' ca' B' cb', e = .returned (.agg ((fewG g).val A' ca' B' cb').toArray) ∧ Fr [] W w' ∧ (∀ c, c ∈ gameR (fewG g) A' B' → c.ok w') ∧ ∀ c, c ∈ gameR (fewG g) A' B' → ∀ x, x ∈ c.fp → W.heap.size ≤ x := by
  have hnc := hg.nc
  have hnd := hg.nd
  unfold maxLen at hnc hnd
  have H : St W [] [] [Go.HW.cells A (encs Cel.enc g.cells), Go.HW.cells B (encs Cd.enc g.code)] W := St.start [] (by simp; exact ⟨cells_ok hx, cells_ok hy⟩)
  refine calls_enter (N := 24) Try.func10 rfl Try.ntmps10 rfl ?_
  refine WC_seq ?_
  refine WC_region ?_
  refine WL_box (v := .agg (List.toArray _)) rfl rfl H ?_
  clear H; intro b1 w H
  refine WL_alloc (l := [(.int .i64 0), (.int .i64 0), (.int .u32 0), (.int .u32 0), (.slice none 0 0), (.slice none 0 0)]) (by kernel_rfl) H ?_
  clear H; intro b2 w H
  refine WL_nil ?_
  refine thenE_normal ?_
  refine WC_seq ?_
  refine WC_region ?_
  refine WL_buildSliceS (s := 2) (z0 := [(.int .i32 0), (.int .u32 0)]) (zero := []) (cells := []) (vs := []) Try.underlying23 (by kernel_rfl) (by kernel_rfl) rfl rfl rfl rfl H ?_
  clear H; intro b3 w H
  replace H := H.toRow 0 2 .zero rfl (by simp [maxLen])
  refine WL_x (x_fieldAddr (n := 0) (o' := 4) Try.underlying26 rfl (by kernel_rfl) rfl rfl) ?_
  first | refine WL_x (x_load (v := .slice _ _ _) Try.underlying23 rfl rfl (H.cellAt .zero rfl)) ?_ | refine WL_x (x_load (v := .slice _ _ _) Try.underlying23 rfl rfl (H.cellAt (.succ .zero) rfl)) ?_ | refine WL_x (x_load (v := .slice _ _ _) Try.underlying23 rfl rfl (H.cellAt (.succ (.succ .zero)) rfl)) ?_ | refine WL_x (x_load (v := .slice _ _ _) Try.underlying23 rfl rfl (H.cellAt (.succ (.succ (.succ .zero))) rfl)) ?_ | refine WL_x (x_load (v := .slice _ _ _) Try.underlying23 rfl rfl (H.cellAt (.succ (.succ (.succ (.succ .zero)))) rfl)) ?_
  refine WL_x (x_fieldAddr (n := 0) (o' := 4) Try.underlying26 rfl (by kernel_rfl) rfl rfl) ?_
  first | refine WL_x (x_load (v := .slice _ _ _) Try.underlying23 rfl rfl (H.cellAt .zero rfl)) ?_ | refine WL_x (x_load (v := .slice _ _ _) Try.underlying23 rfl rfl (H.cellAt (.succ .zero) rfl)) ?_ | refine WL_x (x_load (v := .slice _ _ _) Try.underlying23 rfl rfl (H.cellAt (.succ (.succ .zero)) rfl)) ?_ | refine WL_x (x_load (v := .slice _ _ _) Try.underlying23 rfl rfl (H.cellAt (.succ (.succ (.succ .zero))) rfl)) ?_ | refine WL_x (x_load (v := .slice _ _ _) Try.underlying23 rfl rfl (H.cellAt (.succ (.succ (.succ (.succ .zero)))) rfl)) ?_
  refine WL_x (x_len Try.underlying23 rfl) ?_
  refine WL_x (x_min rfl rfl) ?_
  refine WL_x (x_slice_h (s := 2) Try.underlying23 (by kernel_rfl) rfl rfl (by omega) (by omega)) ?_
  refine WL_append (i := Try.t64) (bytes := 8) (size := 2) Try.underlying23 (by kernel_rfl) rfl rfl rfl (by kernel_rfl) rfl rfl rfl H (fun _ _ => .zero) ((by rw [List.length_take, encs_length Cel.enc Cel.len]; omega)) ((Cells.take (H.rcells .zero) ((min (g.cells.length : Int) 55).toNat * 2))) ((fun u hu => encs_ones Cel.enc Cel.one g.cells u (List.mem_of_mem_take hu))) (by unfold maxLen; omega) (by omega) ?_
  intro A11 c11 w H
  refine WL_x (x_fieldAddr (n := 0) (o' := 4) Try.underlying26 rfl (by kernel_rfl) rfl rfl) ?_
  first | refine WL_store (v := .slice _ _ _) Try.underlying23 rfl rfl rfl rfl (by kernel_rfl) H .zero (Nat.le_of_ble_eq_true rfl) rfl ?_ | refine WL_store (v := .slice _ _ _) Try.underlying23 rfl rfl rfl rfl (by kernel_rfl) H (.succ .zero) (Nat.le_of_ble_eq_true rfl) rfl ?_ | refine WL_store (v := .slice _ _ _) Try.underlying23 rfl rfl rfl rfl (by kernel_rfl) H (.succ (.succ .zero)) (Nat.le_of_ble_eq_true rfl) rfl ?_ | refine WL_store (v := .slice _ _ _) Try.underlying23 rfl rfl rfl rfl (by kernel_rfl) H (.succ (.succ (.succ .zero))) (Nat.le_of_ble_eq_true rfl) rfl ?_ | refine WL_store (v := .slice _ _ _) Try.underlying23 rfl rfl rfl rfl (by kernel_rfl) H (.succ (.succ (.succ (.succ .zero)))) (Nat.le_of_ble_eq_true rfl) rfl ?_
  clear H; intro w H
  try simp only [List.set_cons_succ, List.set_cons_zero] at H
  refine WL_nil ?_
  refine thenE_normal ?_
  refine WC_seq ?_
  refine WC_region ?_
  refine WL_buildSliceS (s := 6) (z0 := [(.int .u8 0), (.int .u8 0), (.int .u8 0), (.int .u8 0), (.int .i32 0), (.int .u32 0)]) (zero := []) (cells := []) (vs := []) Try.underlying24 (by kernel_rfl) (by kernel_rfl) rfl rfl rfl rfl H ?_
  clear H; intro b13 w H
  replace H := H.toRow 0 6 .zero rfl (by simp [maxLen])
  refine WL_x (x_fieldAddr (n := 0) (o' := 5) Try.underlying26 rfl (by kernel_rfl) rfl rfl) ?_
  first | refine WL_x (x_load (v := .slice _ _ _) Try.underlying24 rfl rfl (H.cellAt .zero rfl)) ?_ | refine WL_x (x_load (v := .slice _ _ _) Try.underlying24 rfl rfl (H.cellAt (.succ .zero) rfl)) ?_ | refine WL_x (x_load (v := .slice _ _ _) Try.underlying24 rfl rfl (H.cellAt (.succ (.succ .zero)) rfl)) ?_ | refine WL_x (x_load (v := .slice _ _ _) Try.underlying24 rfl rfl (H.cellAt (.succ (.succ (.succ .zero))) rfl)) ?_ | refine WL_x (x_load (v := .slice _ _ _) Try.underlying24 rfl rfl (H.cellAt (.succ (.succ (.succ (.succ .zero)))) rfl)) ?_
  refine WL_x (x_fieldAddr (n := 0) (o' := 5) Try.underlying26 rfl (by kernel_rfl) rfl rfl) ?_
  first | refine WL_x (x_load (v := .slice _ _ _) Try.underlying24 rfl rfl (H.cellAt .zero rfl)) ?_ | refine WL_x (x_load (v := .slice _ _ _) Try.underlying24 rfl rfl (H.cellAt (.succ .zero) rfl)) ?_ | refine WL_x (x_load (v := .slice _ _ _) Try.underlying24 rfl rfl (H.cellAt (.succ (.succ .zero)) rfl)) ?_ | refine WL_x (x_load (v := .slice _ _ _) Try.underlying24 rfl rfl (H.cellAt (.succ (.succ (.succ .zero))) rfl)) ?_ | refine WL_x (x_load (v := .slice _ _ _) Try.underlying24 rfl rfl (H.cellAt (.succ (.succ (.succ (.succ .zero)))) rfl)) ?_
  refine WL_x (x_len Try.underlying24 rfl) ?_
  refine WL_x (x_min rfl rfl) ?_
  refine WL_x (x_slice_h (s := 6) Try.underlying24 (by kernel_rfl) rfl rfl (by omega) (by omega)) ?_
  refine WL_append (i := Try.t79) (bytes := 12) (size := 6) Try.underlying24 (by kernel_rfl) rfl rfl rfl (by kernel_rfl) rfl rfl rfl H (fun _ _ => .zero) ((by rw [List.length_take, encs_length Cd.enc Cd.len]; omega)) ((Cells.take (H.rcells (.succ .zero)) ((min (g.code.length : Int) 100).toNat * 6))) ((fun u hu => encs_ones Cd.enc Cd.one g.code u (List.mem_of_mem_take hu))) (by unfold maxLen; omega) (by omega) ?_
  intro A21 c21 w H
  refine WL_x (x_fieldAddr (n := 0) (o' := 5) Try.underlying26 rfl (by kernel_rfl) rfl rfl) ?_
  first | refine WL_store (v := .slice _ _ _) Try.underlying24 rfl rfl rfl rfl (by kernel_rfl) H .zero (Nat.le_of_ble_eq_true rfl) rfl ?_ | refine WL_store (v := .slice _ _ _) Try.underlying24 rfl rfl rfl rfl (by kernel_rfl) H (.succ .zero) (Nat.le_of_ble_eq_true rfl) rfl ?_ | refine WL_store (v := .slice _ _ _) Try.underlying24 rfl rfl rfl rfl (by kernel_rfl) H (.succ (.succ .zero)) (Nat.le_of_ble_eq_true rfl) rfl ?_ | refine WL_store (v := .slice _ _ _) Try.underlying24 rfl rfl rfl rfl (by kernel_rfl) H (.succ (.succ (.succ .zero))) (Nat.le_of_ble_eq_true rfl) rfl ?_ | refine WL_store (v := .slice _ _ _) Try.underlying24 rfl rfl rfl rfl (by kernel_rfl) H (.succ (.succ (.succ (.succ .zero)))) (Nat.le_of_ble_eq_true rfl) rfl ?_
  clear H; intro w H
  try simp only [List.set_cons_succ, List.set_cons_zero] at H
  refine WL_nil ?_
  refine thenE_normal ?_
  refine WC_seq ?_
  refine WC_region ?_
  first | refine WL_x (x_loadA (n := 6) Try.underlying26 rfl (by kernel_rfl) rfl rfl (H.rangeAll .zero rfl rfl)) ?_ | refine WL_x (x_loadA (n := 6) Try.underlying26 rfl (by kernel_rfl) rfl rfl (H.rangeAll (.succ .zero) rfl rfl)) ?_ | refine WL_x (x_loadA (n := 6) Try.underlying26 rfl (by kernel_rfl) rfl rfl (H.rangeAll (.succ (.succ .zero)) rfl rfl)) ?_ | refine WL_x (x_loadA (n := 6) Try.underlying26 rfl (by kernel_rfl) rfl rfl (H.rangeAll (.succ (.succ (.succ .zero))) rfl rfl)) ?_ | refine WL_x (x_loadA (n := 6) Try.underlying26 rfl (by kernel_rfl) rfl rfl (H.rangeAll (.succ (.succ (.succ (.succ .zero)))) rfl rfl)) ?_
  first | refine WL_storeA rfl rfl rfl (by kernel_rfl) H .zero (Nat.le_of_ble_eq_true rfl) (splice_all _ _ rfl) ?_ | refine WL_storeA rfl rfl rfl (by kernel_rfl) H (.succ .zero) (Nat.le_of_ble_eq_true rfl) (splice_all _ _ rfl) ?_ | refine WL_storeA rfl rfl rfl (by kernel_rfl) H (.succ (.succ .zero)) (Nat.le_of_ble_eq_true rfl) (splice_all _ _ rfl) ?_ | refine WL_storeA rfl rfl rfl (by kernel_rfl) H (.succ (.succ (.succ .zero))) (Nat.le_of_ble_eq_true rfl) (splice_all _ _ rfl) ?_ | refine WL_storeA rfl rfl rfl (by kernel_rfl) H (.succ (.succ (.succ (.succ .zero)))) (Nat.le_of_ble_eq_true rfl) (splice_all _ _ rfl) ?_
  clear H; intro w H
  refine WL_nil ?_
  refine thenE_normal ?_
  refine WC_ret ?_
  have e1 : (min (g.cells.length : Int) 55).toNat = (g.cells.take 55).length := by rw [List.length_take]; omega
  have e2 : (min (g.code.length : Int) 100).toNat = (g.code.take 100).length := by rw [List.length_take]; omega
  have e3 : (encs Cel.enc g.cells).take ((min (g.cells.length : Int) 55).toNat * 2) = encs Cel.enc (g.cells.take 55) := by
    rw [encs_take Cel.enc Cel.len]
    by_cases hle : g.cells.length ≤ 55
    · rw [List.take_of_length_le (by omega), List.take_of_length_le hle]
    · rw [show (min (g.cells.length : Int) 55).toNat = 55 by omega]
  have e4 : (encs Cd.enc g.code).take ((min (g.code.length : Int) 100).toNat * 6) = encs Cd.enc (g.code.take 100) := by
    rw [encs_take Cd.enc Cd.len]
    by_cases hle : g.code.length ≤ 100
    · rw [List.take_of_length_le (by omega), List.take_of_length_le hle]
    · rw [show (min (g.code.length : Int) 100).toNat = 100 by omega]
  rw [e3, e4, e1, e2] at H
  refine endsR (rs := [.cell 2 26]) (vs := [.agg ((fewG g).val A11 c11 A21 c21).toArray]) Try.results10 ?_ ?_
  · refine .cons (.agg (n := 6) (vs := (fewG g).val A11 c11 A21 c21) rfl Try.underlying26 rfl (by kernel_rfl) rfl (H.rangeAll (.succ (.succ .zero)) rfl ?_)) .nil
    simp [Gm.val, fewG, e1, e2]
  have Hb := H.ok _ (Has.mem .zero)
  have Ha := H.ok _ (Has.mem (.succ .zero))
  refine ⟨A11, c11, A21, c21, rfl, H.fr, ?_, ?_⟩
  · intro c hc
    simp only [gameR, List.mem_cons, List.not_mem_nil, or_false] at hc
    rcases hc with rfl | rfl
    · exact row_cells Ha
    · exact row_cells Hb
  · intro c hc
    simp only [gameR, List.mem_cons, List.not_mem_nil, or_false] at hc
    rcases hc with rfl | rfl
    · exact cells_fresh (owns_cells Ha.r) fun b hb => (H.own _ (Has.mem (.succ .zero)) b hb).resolve_left (by simp)
    · exact cells_fresh (owns_cells Hb.r) fun b hb => (H.own _ (Has.mem .zero) b hb).resolve_left (by simp)

def g0 : Gm := ⟨1, 1, 3, 0, [], []⟩
theorem g0_ok : g0.ok := ⟨by decide, by decide, by decide, by decide, by decide, by decide, by decide, by decide, by simp [g0], by simp [g0], by simp [g0]⟩
def d0 : Dk := newD g0
def d1 : Dk := putD d0 0 1 2
def d2 : Dk := takeD d1
theorem d0_ok : d0.ok := newD_ok _ g0_ok
theorem d1_ok : d1.ok := putD_ok _ _ _ _ d0_ok
theorem d2_ok : d2.ok := takeD_ok _ d1_ok
theorem put0 : putE d0 0 1 2 = 0 := by decide
theorem take1 : takeL d1 = [2] := by decide
theorem put2 : putE d2 0 1 2 = 11 := by decide
theorem tick2 : (putD d2 0 1 2).tick = 1 := by decide

theorem awake_ok (W : World) : Calls Try.prog 9 #[] W fun e w' => e = .returned (.bool true) ∧ Fr [] W w' := by
  have H : St W [] [] [] W := St.start [] (by simp)
  refine calls_enter (N := 29) Try.func9 rfl Try.ntmps9 rfl ?_
  refine WC_seq ?_
  refine WC_region ?_
  refine WL_x (x_assign (v := (.bool false)) rfl) ?_
  refine WL_nil ?_
  refine thenE_normal ?_
  refine WC_seq ?_
  refine WC_region ?_
  refine WL_x (x_buildS (pl := [(0, 1), (1, 1), (2, 1), (3, 1), (4, 1), (5, 1)]) (zero := [(.int .i64 0), (.int .i64 0), (.int .u32 0), (.int .u32 0), (.slice none 0 0), (.slice none 0 0)]) (cells := [_, _, _, _, _, _]) (vs := [(0, (.int .i64 1)), (1, (.int .i64 1)), (2, (.int .u32 3))]) Try.underlying26 (by kernel_rfl) (by kernel_rfl) (by kernel_rfl) rfl rfl) ?_
  refine WL_call (vs := [.agg (List.toArray _)]) Try.func12 rfl rfl rfl (new_ok _ g0 none none 0 0 g0_ok (Cells.nil _ _) (Cells.nil _ _)) ?_
  rintro _ w ⟨d, b, rfl, hf, hok, hfr⟩
  refine ⟨_, rfl, ?_⟩
  replace H := H.new hf hok hfr
  refine WL_x (x_assign (v := .pointer _) rfl) ?_
  refine WL_nil ?_
  refine thenE_normal ?_
  refine WC_seq ?_
  refine WC_seq ?_
  refine WC_region ?_
  refine WL_x (x_move (v := .pointer _) rfl) ?_
  refine WL_call (vs := [.pointer _, (.int .i64 0), (.int .u32 1), (.int .u32 2)]) Try.func13 rfl rfl rfl (put_ok _ d b d0 _ _ _ (H.ok _ (Has.mem .zero)) d0_ok (by omega) (by omega)) ?_
  rintro _ w ⟨rfl, hf, hok⟩
  rw [put0]
  refine ⟨_, rfl, ?_⟩
  replace H := H.turn .zero hf (fun _ h => .inl h) hok (fun _ h => .inl h)
  refine WL_x (x_binop rfl rfl (r_neq _ _ _ _)) ?_
  refine WL_nil ?_
  refine thenE_normal ?_
  refine WC_no rfl ?_
  refine WC_skip ?_
  refine thenE_normal ?_
  refine WC_seq ?_
  refine WC_region ?_
  refine WL_x (x_move (v := .pointer _) rfl) ?_
  refine WL_call (vs := [.pointer _]) Try.func14 rfl rfl rfl (take_ok _ d b d1 (H.ok _ (Has.mem .zero)) d1_ok (by decide)) ?_
  rintro _ w ⟨A1, c1, rfl, hf, hok, hokr, hfr⟩
  rw [take1] at hokr hfr ⊢
  refine ⟨_, rfl, ?_⟩
  replace H := H.turnNew .zero hf (fun _ h => .inl h) hok (fun _ h => h) hokr hfr
  refine WL_x (x_assign (v := .slice _ _ _) rfl) ?_
  refine WL_nil ?_
  refine thenE_normal ?_
  refine WC_seq ?_
  refine WC_region ?_
  refine WL_x (x_move (v := .slice _ _ _) rfl) ?_
  refine WL_x (x_len Try.underlying33 rfl) ?_
  refine WL_x (x_binop rfl rfl (r_eql _ _ _ _)) ?_
  refine WL_x (x_move (v := .bool _) rfl) ?_
  refine WL_guard_yes rfl rfl rfl ?_
  refine WL_x (x_move (v := .slice _ _ _) rfl) ?_
  refine WL_guard_yes rfl rfl rfl ?_
  refine WL_x (x_indexAddr (s := 1) Try.underlying33 (by kernel_rfl) rfl rfl (by decide) (by decide) (H.osomen (xs := [2]) .zero (by decide)) rfl) ?_
  refine WL_guard_yes rfl rfl rfl ?_
  refine WL_x (x_load (v := .int .u32 _) Try.underlying22 rfl rfl (H.onum (xs := [2]) .zero (by decide) (by decide))) ?_
  refine WL_guard_yes rfl rfl rfl ?_
  refine WL_x (x_binop rfl rfl (r_eql _ _ _ _)) ?_
  refine WL_x (x_pick (v := .bool _) rfl rfl) ?_
  refine WL_x (x_move (v := .bool _) rfl) ?_
  refine WL_guard_yes rfl rfl rfl ?_
  refine WL_x (x_move (v := .pointer _) rfl) ?_
  refine WL_guard_yes rfl rfl rfl ?_
  refine WL_call (vs := [.pointer _, (.int .i64 0), (.int .u32 1), (.int .u32 2)]) Try.func13 rfl rfl rfl (put_ok _ d b d2 _ _ _ (H.ok _ (Has.mem (.succ .zero))) d2_ok (by omega) (by omega)) ?_
  rintro _ w ⟨rfl, hf, hok⟩
  rw [put2]
  refine ⟨_, rfl, ?_⟩
  replace H := H.turn (.succ .zero) hf (fun _ h => .inl h) hok (fun _ h => .inl h)
  refine WL_guard_yes rfl rfl rfl ?_
  refine WL_x (x_binop rfl rfl (r_eql _ _ _ _)) ?_
  refine WL_x (x_pick (v := .bool _) rfl rfl) ?_
  refine WL_x (x_move (v := .bool _) rfl) ?_
  refine WL_guard_yes rfl rfl rfl ?_
  refine WL_x (x_move (v := .pointer _) rfl) ?_
  refine WL_guard_yes rfl rfl rfl ?_
  refine WL_call (vs := [.pointer _]) Try.func16 rfl rfl rfl (tick_ok _ d b _ (H.ok _ (Has.mem (.succ .zero))) (putD_ok _ _ _ _ d2_ok)) ?_
  rintro _ w ⟨rfl, hf, hok⟩
  rw [tick2]
  refine ⟨_, rfl, ?_⟩
  replace H := H.turn (.succ .zero) hf (fun _ h => .inl h) hok (fun _ h => .inl h)
  refine WL_guard_yes rfl rfl rfl ?_
  refine WL_x (x_binop rfl rfl (r_eql _ _ _ _)) ?_
  refine WL_x (x_pick (v := .bool _) rfl rfl) ?_
  refine WL_x (x_assign (v := .bool _) rfl) ?_
  refine WL_nil ?_
  refine thenE_normal ?_
  refine WC_ret ?_
  refine ends1 (v := .bool _) Try.results9 rfl ?_
  exact ⟨rfl, H.fr⟩

/-- a desk without moves -/
def idle (G : Gm) (t : Int) : Dk := ⟨G.pl, G.moves, G.dflt, t, fun _ => none⟩
theorem idle_ok (G : Gm) (t : Int) (h : G.ok) (h0 : 0 ≤ t ∧ t ≤ 4294967295) : (idle G t).ok := ⟨h.pl0, h.pl1, h.moves0, h.moves1, h.dflt0, h.dflt1, h0.1, h0.2⟩
theorem newD_idle (G : Gm) (h : gameRight G = true) : newD G = idle G 0 := by simp [newD, idle, h]
theorem takeD_idle (G : Gm) (t : Int) : takeD (idle G t) = idle G (nextT (idle G t)) := by
  unfold takeD
  have : takeM (idle G t) (idle G t).pl.toNat = fun _ => none := by funext k; simp [takeM, idle]
  rw [this]; rfl
theorem takeL_len (D : Dk) : (takeL D).length = D.pl.toNat := by simp [takeL]
theorem takeL_nth (D : Dk) (k : Nat) (h : k < D.pl.toNat) : nth (takeL D) k = (D.l ((k : Nat), nextT D)).getD D.usual := by
  rw [nth_lt _ _ (by rw [takeL_len]; exact h)]
  simp [takeL]
theorem put_pl (D : Dk) (p t m : Int) : (putD D p t m).pl = D.pl := by unfold putD; split <;> rfl
theorem put_tick (D : Dk) (p t m : Int) : (putD D p t m).tick = D.tick := by unfold putD; split <;> rfl
theorem put_nextT (D : Dk) (p t m : Int) : nextT (putD D p t m) = nextT D := by unfold nextT; rw [put_tick]
theorem put_usual (D : Dk) (p t m : Int) : (putD D p t m).usual = D.usual := by unfold putD; split <;> rfl
theorem idle_put (G : Gm) (t p m : Int) (k : Nat) (h : k < G.pl.toNat) : nth (takeL (putD (idle G t) p (nextT (idle G t)) m)) k = if putE (idle G t) p (nextT (idle G t)) m = 0 ∧ (k : Int) = p then m else G.dflt := by
  rw [takeL_nth _ _ (by rw [put_pl]; exact h), put_nextT, put_usual]
  unfold putD
  by_cases he : putE (idle G t) p (nextT (idle G t)) m = 0
  · rw [if_pos he]
    simp only [mset]
    by_cases hk : (k : Int) = p
    · rw [if_pos (by rw [hk]), if_pos ⟨he, hk⟩]; rfl
    · rw [if_neg (by intro e; exact hk (congrArg Prod.fst e)), if_neg (by intro e; exact hk e.2)]; rfl
  · rw [if_neg he, if_neg (by intro e; exact he e.1)]; rfl
theorem right_pl (G : Gm) (h : gameRight G = true) : 1 ≤ G.pl ∧ G.pl ≤ 6 := by
  unfold gameRight at h
  simp only [Bool.and_eq_true, decide_eq_true_eq] at h
  omega

set_option maxHeartbeats 1000000 in
theorem apart_ok (W : World) (g : Gm) (A B : Option Addr) (ca cb : Nat) (player move ticks : Int) (hg : g.ok) (hca : g.cells.length ≤ ca) (hcb : g.code.length ≤ cb) (hx : Cells W A (encs Cel.enc g.cells)) (hy : Cells W B (encs Cd.enc g.code))
    (hp : -9223372036854775808 ≤ player ∧ player ≤ 9223372036854775807) (hm : 0 ≤ move ∧ move ≤ 4294967295) (ht : 0 ≤ ticks ∧ ticks ≤ 255) :
    Calls Try.prog 3 #[.agg (g.val A ca B cb).toArray, .int .i64 player, .int .u32 move, .int .u8 ticks] W fun e w' => e = .returned (.bool true) ∧ Fr [] W w' := by
  have H : St W [] [] [Go.HW.cells A (encs Cel.enc g.cells), Go.HW.cells B (encs Cd.enc g.code)] W := St.start [] (by simp; exact ⟨cells_ok hx, cells_ok hy⟩)
  refine calls_enter (N := 120) Try.func3 rfl Try.ntmps3 rfl ?_
  refine WC_seq ?_
  refine WC_region ?_
  refine WL_box (v := .agg (List.toArray _)) rfl rfl H ?_
  clear H; intro b4 w H
  refine WL_x (x_assign (v := (.bool false)) rfl) ?_
  refine WL_nil ?_
  refine thenE_normal ?_
  refine WC_seq ?_
  refine WC_seq ?_
  refine WC_region ?_
  refine WL_call (vs := []) Try.func9 rfl rfl rfl (awake_ok _) ?_
  rintro _ w ⟨rfl, hf⟩
  refine ⟨_, rfl, ?_⟩
  replace H := H.quiet hf
  refine WL_x (x_not rfl) ?_
  refine WL_nil ?_
  refine thenE_normal ?_
  refine WC_no rfl ?_
  refine WC_skip ?_
  refine thenE_normal ?_
  refine WC_seq ?_
  refine WC_region ?_
  refine WL_x (x_loadA (n := 6) (vs := g.val A ca B cb) Try.underlying26 rfl (by kernel_rfl) rfl rfl (H.rangeAll .zero rfl rfl)) ?_
  refine WL_call (vs := [.agg (List.toArray _)]) Try.func10 rfl rfl rfl (few_ok _ g A B ca cb hg hca hcb (H.rget (Has.mem .zero)) (H.rget (Has.mem (.succ .zero)))) ?_
  rintro _ w ⟨A1, ca1, B1, cb1, rfl, hf, hok, hfr⟩
  refine ⟨_, rfl, ?_⟩
  replace H := (H.rnews hf hok hfr).drop (ro' := gameR (fewG g) A1 B1) (List.Sublist.refl _) (fun d hd => List.mem_append_left _ hd)
  simp only [gameR] at H
  have hG := fewG_ok g hg
  clear hx hy hca hcb hok hfr
  first | refine WL_storeA rfl rfl rfl (by kernel_rfl) H .zero (Nat.le_of_ble_eq_true rfl) (splice_all _ _ rfl) ?_ | refine WL_storeA rfl rfl rfl (by kernel_rfl) H (.succ .zero) (Nat.le_of_ble_eq_true rfl) (splice_all _ _ rfl) ?_ | refine WL_storeA rfl rfl rfl (by kernel_rfl) H (.succ (.succ .zero)) (Nat.le_of_ble_eq_true rfl) (splice_all _ _ rfl) ?_ | refine WL_storeA rfl rfl rfl (by kernel_rfl) H (.succ (.succ (.succ .zero))) (Nat.le_of_ble_eq_true rfl) (splice_all _ _ rfl) ?_ | refine WL_storeA rfl rfl rfl (by kernel_rfl) H (.succ (.succ (.succ (.succ .zero)))) (Nat.le_of_ble_eq_true rfl) (splice_all _ _ rfl) ?_ | refine WL_storeA rfl rfl rfl (by kernel_rfl) H (.succ (.succ (.succ (.succ (.succ .zero))))) (Nat.le_of_ble_eq_true rfl) (splice_all _ _ rfl) ?_
  clear H; intro w H
  refine WL_nil ?_
  refine thenE_normal ?_
  refine WC_seq ?_
  refine WC_seq ?_
  refine WC_region ?_
  refine WL_x (x_loadA (n := 6) (vs := (fewG g).val A1 ca1 B1 cb1) Try.underlying26 rfl (by kernel_rfl) rfl rfl (H.rangeAll .zero rfl rfl)) ?_
  refine WL_call (vs := [.agg (List.toArray _)]) Try.func11 rfl rfl rfl (gright_ok _ (fewG g) _ _ _ _ hG (H.rget (Has.mem .zero)) (H.rget (Has.mem (.succ .zero)))) ?_
  rintro _ w ⟨rfl, hf⟩
  refine ⟨_, rfl, ?_⟩
  replace H := H.quiet hf
  refine WL_x (x_not rfl) ?_
  refine WL_nil ?_
  refine thenE_normal ?_
  refine WC_if rfl (fun h21 => ?_) (fun h21 => ?_)
  · have hr : gameRight (fewG g) = false := by simpa using h21
    have hpl : (newD (fewG g)).pl = 0 := by simp [newD, hr]
    have hpe : putE (newD (fewG g)) player 1 move = 3 := by unfold putE; rw [hpl, if_pos (by omega)]
    have htl : (takeL (newD (fewG g))).length = 0 := by rw [takeL_len, hpl]; rfl
    refine WC_seq ?_
    refine WC_region ?_
    refine WL_x (x_loadA (n := 6) (vs := (fewG g).val A1 ca1 B1 cb1) Try.underlying26 rfl (by kernel_rfl) rfl rfl (H.rangeAll .zero rfl rfl)) ?_
    refine WL_call (vs := [.agg (List.toArray _)]) Try.func12 rfl rfl rfl (new_ok _ (fewG g) _ _ _ _ hG (H.rget (Has.mem .zero)) (H.rget (Has.mem (.succ .zero)))) ?_
    rintro _ w ⟨d, b, rfl, hf, hok, hfr⟩
    refine ⟨_, rfl, ?_⟩
    replace H := H.new hf hok hfr
    refine WL_x (x_move (v := .int .i64 _) rfl) ?_
    refine WL_x (x_move (v := .int .u32 _) rfl) ?_
    refine WL_call (vs := [.pointer _, .int .i64 _, (.int .u32 1), .int .u32 _]) Try.func13 rfl rfl rfl (put_ok _ d b _ player 1 move (H.ok _ (Has.mem .zero)) (newD_ok _ hG) hp (by omega)) ?_
    rintro _ w ⟨rfl, hf, hok⟩
    rw [hpe]
    refine ⟨_, rfl, ?_⟩
    replace H := H.turn .zero hf (fun _ h => .inl h) hok (fun _ h => .inl h)
    refine WL_x (x_binop rfl rfl (r_eql _ _ _ _)) ?_
    refine WL_x (x_move (v := .bool _) rfl) ?_
    refine WL_guard_yes rfl rfl rfl ?_
    refine WL_x (x_loadA (n := 6) (vs := (fewG g).val A1 ca1 B1 cb1) Try.underlying26 rfl (by kernel_rfl) rfl rfl (H.rangeAll (.succ .zero) rfl rfl)) ?_
    refine WL_guard_yes rfl rfl rfl ?_
    refine WL_call (vs := [.agg (List.toArray _)]) Try.func12 rfl rfl rfl (new_ok _ (fewG g) _ _ _ _ hG (H.rget (Has.mem .zero)) (H.rget (Has.mem (.succ .zero)))) ?_
    rintro _ w ⟨d2, b2, rfl, hf, hok, hfr⟩
    refine ⟨_, rfl, ?_⟩
    replace H := H.new hf hok hfr
    refine WL_guard_yes rfl rfl rfl ?_
    refine WL_call (vs := [.pointer _]) Try.func14 rfl rfl rfl (take_ok _ d2 b2 _ (H.ok _ (Has.mem .zero)) (newD_ok _ hG) (by omega)) ?_
    rintro _ w ⟨X1, c1, rfl, hf, hok, hokr, hfr⟩
    rw [htl]
    refine ⟨_, rfl, ?_⟩
    replace H := H.quiet ((Fr.refl [] _))
    replace H := H.turn .zero hf (fun _ h => .inl h) hok (fun _ h => .inl h)
    refine WL_guard_yes rfl rfl rfl ?_
    refine WL_x (x_len Try.underlying33 rfl) ?_
    refine WL_guard_yes rfl rfl rfl ?_
    refine WL_x (x_binop rfl rfl (r_eql _ _ _ _)) ?_
    refine WL_x (x_pick (v := .bool _) rfl rfl) ?_
    refine WL_x (x_assign (v := .bool _) rfl) ?_
    refine WL_nil ?_
    refine thenE_normal ?_
    refine WC_ret ?_
    refine thenE_ret ?_
    refine ends1 (v := .bool _) Try.results3 rfl ?_
    first
      | exact ⟨rfl, H.fr⟩
      | exact ⟨by rw [htk]; simp, H.fr⟩
  · have hr : gameRight (fewG g) = true := by simpa using h21
    have hpl := right_pl _ hr
    refine WC_skip ?_
    refine thenE_normal ?_
    refine WC_seq ?_
    refine WC_region ?_
    refine WL_x (x_loadA (n := 6) (vs := (fewG g).val A1 ca1 B1 cb1) Try.underlying26 rfl (by kernel_rfl) rfl rfl (H.rangeAll .zero rfl rfl)) ?_
    refine WL_call (vs := [.agg (List.toArray _)]) Try.func12 rfl rfl rfl (new_ok _ (fewG g) _ _ _ _ hG (H.rget (Has.mem .zero)) (H.rget (Has.mem (.succ .zero)))) ?_
    rintro _ w ⟨d, b, rfl, hf, hok, hfr⟩
    rw [newD_idle _ hr] at hok hfr
    refine ⟨_, rfl, ?_⟩
    replace H := H.new hf hok hfr
    refine WL_x (x_assign (v := .pointer _) rfl) ?_
    refine WL_nil ?_
    refine thenE_normal ?_
    refine WC_seq ?_
    refine WC_seq ?_
    refine WC_region ?_
    refine WL_x (x_move (v := .int .u8 _) rfl) ?_
    refine WL_x (x_binop rfl rfl (r_rem_nat (by omega) (by omega))) ?_
    refine WL_x (x_move (v := (.int .u8 0)) rfl) ?_
    refine WL_nil ?_
    refine thenE_normal ?_
    refine WC_block ?_
    refine WC_while (fun (s : Nat × Int) f w' => (s.1 : Int) ≤ ticks % 10 ∧ (0 ≤ s.2 ∧ s.2 ≤ 4294967295) ∧ f 39 = .int .u8 s.1 ∧ f 38 = .int .u8 (ticks % 10) ∧ f 9 = .pointer (some ⟨d, 0, none⟩) ∧ f 1 = .int .i64 player ∧ f 2 = .int .u32 move ∧ f 4 = .pointer (some ⟨b4, 0, none⟩) ∧ St W [] [deskc d b (idle (fewG g) s.2), blk b4 ((fewG g).val A1 ca1 B1 cb1) 26] [Go.HW.cells A1 (encs Cel.enc (fewG g).cells), Go.HW.cells B1 (encs Cd.enc (fewG g).code)] w') (fun s => (ticks % 10).toNat - s.1) (s0 := (0, 0)) ?_ ?_
    · exact ⟨by simp only; omega, by simp only; omega, rfl, rfl, rfl, rfl, rfl, rfl, H⟩
    · clear H
      rintro ⟨k, t⟩ f w ⟨hk, htt, h39, h38, h9, h1, h2, h4, H⟩
      simp only at hk htt h39 h38 h9 h1 h2 h4 H
      rw [← upd_self h39, ← upd_self h38, ← upd_self h9, ← upd_self h1, ← upd_self h2, ← upd_self h4]
      refine WC_seq ?_
      refine WC_region ?_
      refine WL_x (x_binop rfl rfl (r_lss _ _ _ _)) ?_
      refine WL_nil ?_
      refine thenE_normal ?_
      refine WC_seq ?_
      first | refine WC_ifd rfl (fun h40 => ?_) (fun h40 => ?_) | refine WC_ifn rfl (fun h40 => ?_) (fun h40 => ?_) | refine WC_if rfl (fun h40 => ?_) (fun h40 => ?_)
      · refine WC_skip ?_
        refine thenE_normal ?_
        refine WC_seq ?_
        refine WC_block ?_
        refine WC_region ?_
        refine WL_x (x_move (v := .pointer _) rfl) ?_
        refine WL_call (vs := [.pointer _]) Try.func14 rfl rfl rfl (take_ok _ d b _ (H.ok _ (Has.mem .zero)) (idle_ok _ _ hG htt) (by have := hpl.2; show (fewG g).pl ≤ 1000; omega)) ?_
        rintro _ w ⟨X1, c1, rfl, hf, hok, hokr, hfr⟩
        rw [takeD_idle] at hok
        refine ⟨_, rfl, ?_⟩
        replace H := H.turn .zero hf (fun _ h => .inl h) hok (fun _ h => .inl h)
        refine WL_nil ?_
        refine inBlockE_normal ?_
        refine thenE_normal ?_
        refine WC_region ?_
        refine WL_x (x_binop rfl rfl (r_add_in (u8_in (by omega) (by omega)))) ?_
        refine WL_x (x_move (v := .int .u8 _) rfl) ?_
        refine WL_nil ?_
        refine thenE_normal ?_
        exact ⟨(k + 1, nextT (idle (fewG g) t)), ⟨by simp only; omega, nextT_in _, by simp [upd], rfl, rfl, rfl, rfl, rfl, H⟩, by simp only; omega⟩
      · refine WC_exit ?_
        refine thenE_exit ?_
        refine thenE_exit ?_
        refine inBlockE_exit ?_
        refine thenE_normal ?_
        refine WC_seq ?_
        refine WC_region ?_
        refine WL_x (x_move (v := .pointer _) rfl) ?_
        refine WL_call (vs := [.pointer _]) Try.func15 rfl rfl rfl (copy_ok _ d b _ (H.ok _ (Has.mem .zero))) ?_
        rintro _ w ⟨d2, b2, rfl, hf, hok, hok2, hfr⟩
        refine ⟨_, rfl, ?_⟩
        replace H := H.turnNew .zero hf (fun _ h => .inl h) hok (fun _ h => h) hok2 hfr
        have hI := idle_ok _ _ hG htt
        refine WL_x (x_assign (v := .pointer _) rfl) ?_
        refine WL_nil ?_
        refine thenE_normal ?_
        refine WC_seq ?_
        refine WC_region ?_
        refine WL_x (x_move (v := .pointer _) rfl) ?_
        refine WL_x (x_move (v := .int .i64 _) rfl) ?_
        refine WL_x (x_move (v := .pointer _) rfl) ?_
        refine WL_call (vs := [.pointer _]) Try.func16 rfl rfl rfl (tick_ok _ d b _ (H.ok _ (Has.mem (.succ .zero))) hI) ?_
        rintro _ w ⟨rfl, hf, hok⟩
        refine ⟨_, rfl, ?_⟩
        replace H := H.turn (.succ .zero) hf (fun _ h => .inl h) hok (fun _ h => .inl h)
        refine WL_x (x_binop rfl rfl (r_add _ _ _ _)) ?_
        refine WL_x (x_move (v := .int .u32 _) rfl) ?_
        refine WL_call (vs := [.pointer _, .int .i64 _, .int .u32 _, .int .u32 _]) Try.func13 rfl rfl rfl (put_ok _ d b _ player (nextT (idle (fewG g) t)) move (H.ok _ (Has.mem (.succ .zero))) hI hp (nextT_in _)) ?_
        rintro _ w ⟨rfl, hf, hok⟩
        refine ⟨_, rfl, ?_⟩
        replace H := H.turn (.succ .zero) hf (fun _ h => .inl h) hok (fun _ h => .inl h)
        have hI2 := putD_ok _ player (nextT (idle (fewG g) t)) move hI
        have hq := fun k => idle_put (fewG g) t player move k
        have hlx : (takeL (putD (idle (fewG g) t) player (nextT (idle (fewG g) t)) move)).length = (fewG g).pl.toNat := by rw [takeL_len, put_pl]; rfl
        have hly : (takeL (idle (fewG g) t)).length = (fewG g).pl.toNat := takeL_len _
        have hqy : ∀ k, k < (fewG g).pl.toNat → nth (takeL (idle (fewG g) t)) (k : Nat) = (fewG g).dflt := fun k hk => by rw [takeL_nth _ _ hk]; rfl
        have htk : (takeD (putD (idle (fewG g) t) player (nextT (idle (fewG g) t)) move)).tick = (takeD (idle (fewG g) t)).tick := put_nextT _ _ _ _
        refine WL_x (x_assign (v := .int .i64 _) rfl) ?_
        refine WL_nil ?_
        refine thenE_normal ?_
        refine WC_seq ?_
        refine WC_region ?_
        refine WL_x (x_move (v := .pointer _) rfl) ?_
        refine WL_call (vs := [.pointer _]) Try.func14 rfl rfl rfl (take_ok _ d b _ (H.ok _ (Has.mem (.succ .zero))) hI2 (by rw [put_pl]; have := hpl.2; show (fewG g).pl ≤ 1000; omega)) ?_
        rintro _ w ⟨X1, c1, rfl, hf, hok, hokr, hfr⟩
        refine ⟨_, rfl, ?_⟩
        replace H := H.turnNew (.succ .zero) hf (fun _ h => .inl h) hok (fun _ h => h) hokr hfr
        refine WL_x (x_move (v := .pointer _) rfl) ?_
        refine WL_call (vs := [.pointer _]) Try.func14 rfl rfl rfl (take_ok _ d2 b2 _ (H.ok _ (Has.mem (.succ .zero))) hI (by have := hpl.2; show (fewG g).pl ≤ 1000; omega)) ?_
        rintro _ w ⟨Y1, c2, rfl, hf, hok, hokr, hfr⟩
        refine ⟨_, rfl, ?_⟩
        replace H := H.turnNew (.succ .zero) hf (fun _ h => .inl h) hok (fun _ h => h) hokr hfr
        have hI3 := takeD_ok _ hI
        have hI4 := takeD_ok _ hI2
        rw [hlx, hly] at H
        generalize takeL (putD (idle (fewG g) t) player (nextT (idle (fewG g) t)) move) = xs at *
        generalize takeL (idle (fewG g) t) = ys at *
        generalize takeD (putD (idle (fewG g) t) player (nextT (idle (fewG g) t)) move) = DA at *
        generalize takeD (idle (fewG g) t) = DB at *
        generalize putE (idle (fewG g) t) player (nextT (idle (fewG g) t)) move = ee at *
        refine WL_x (x_assign (v := .slice _ _ _) rfl) ?_
        refine WL_x (x_assign (v := .slice _ _ _) rfl) ?_
        refine WL_nil ?_
        refine thenE_normal ?_
        refine WC_seq ?_
        refine WC_seq ?_
        refine WC_region ?_
        refine WL_x (x_move (v := .slice _ _ _) rfl) ?_
        refine WL_x (x_len Try.underlying33 rfl) ?_
        refine WL_x (x_move (v := (.int .i64 0)) rfl) ?_
        refine WL_nil ?_
        refine thenE_normal ?_
        refine WC_block ?_
        refine WC_while (fun (k : Nat) f w' => k ≤ xs.length ∧ f 59 = .int .i64 k ∧ f 58 = .int .i64 xs.length ∧ f 12 = .slice X1 xs.length c1 ∧ f 13 = .slice Y1 ys.length c2 ∧ f 11 = .int .i64 ee ∧ f 9 = .pointer (some ⟨d, 0, none⟩) ∧ f 10 = .pointer (some ⟨d2, 0, none⟩) ∧ f 1 = .int .i64 player ∧ f 2 = .int .u32 move ∧ f 4 = .pointer (some ⟨b4, 0, none⟩) ∧ St W [] [row Y1 c2 22 1 (fewG g).pl.toNat (nums .u32 ys), row X1 c1 22 1 (fewG g).pl.toNat (nums .u32 xs), deskc d2 b2 DB, deskc d b DA, blk b4 ((fewG g).val A1 ca1 B1 cb1) 26] [Go.HW.cells A1 (encs Cel.enc (fewG g).cells), Go.HW.cells B1 (encs Cd.enc (fewG g).code)] w') (fun k => xs.length - k) (s0 := 0) ?_ ?_
        · exact ⟨Nat.zero_le _, rfl, rfl, rfl, rfl, rfl, rfl, rfl, rfl, rfl, rfl, H⟩
        · clear H
          rintro k f w ⟨hk, h59, h58, h12, h13, h11, h9, h10, h1, h2, h4, H⟩
          rw [← upd_self h59, ← upd_self h58, ← upd_self h12, ← upd_self h13, ← upd_self h11, ← upd_self h9, ← upd_self h10, ← upd_self h1, ← upd_self h2, ← upd_self h4]
          refine WC_seq ?_
          refine WC_region ?_
          refine WL_x (x_binop rfl rfl (r_lss _ _ _ _)) ?_
          refine WL_nil ?_
          refine thenE_normal ?_
          refine WC_seq ?_
          refine WC_ifd rfl (fun h60 => ?_) (fun h60 => ?_)
          · have hk60 : k < (fewG g).pl.toNat := by omega
            have hxk := hq k hk60
            have hyk := hqy k hk60
            refine WC_skip ?_
            refine thenE_normal ?_
            refine WC_seq ?_
            refine WC_block ?_
            refine WC_seq ?_
            refine WC_region ?_
            refine WL_x (x_move (v := .int .i64 _) rfl) ?_
            refine WL_x (x_assign (v := .int .i64 _) rfl) ?_
            refine WL_nil ?_
            refine thenE_normal ?_
            refine WC_seq ?_
            refine WC_drawH (m := 38) (listed := [false, false, false, false, false, false, false, false, false, false, false, false, false, false, false, false, false, false, false, false, false, false, false, false, false, false, false, false, false, false, false, false, false, false, false, false, false, false]) 38 (by kernel_rfl) rfl rfl H ?_
            intro w H
            refine WG_take (i := 0) (listed' := [true, false, false, false, false, false, false, false, false, false, false, false, false, false, false, false, false, false, false, false, false, false, false, false, false, false, false, false, false, false, false, false, false, false, false, false, false, false]) rfl (by kernel_rfl) (fun w H => x_move (v := .slice _ _ _) rfl) H rfl ?_
            refine WG_take (i := 1) (listed' := [true, true, false, false, false, false, false, false, false, false, false, false, false, false, false, false, false, false, false, false, false, false, false, false, false, false, false, false, false, false, false, false, false, false, false, false, false, false]) rfl (by kernel_rfl) (fun w H => x_move (v := .int .i64 _) rfl) H rfl ?_
            refine WG_take (i := 2) (listed' := [true, true, true, false, false, false, false, false, false, false, false, false, false, false, false, false, false, false, false, false, false, false, false, false, false, false, false, false, false, false, false, false, false, false, false, false, false, false]) rfl (by kernel_rfl) (fun w H => x_indexAddr (s := 1) Try.underlying33 (by kernel_rfl) rfl rfl (by omega) (by omega) (by first | rfl | assumption | exact H.rsomen .zero (by omega) | exact H.rsomen (.succ .zero) (by omega) | exact H.rsomen (.succ (.succ .zero)) (by omega) | exact H.osomen .zero (by omega) | exact H.osomen (.succ .zero) (by omega) | exact H.osomen (.succ (.succ .zero)) (by omega)) rfl) H rfl ?_
            first | refine WG_take (i := 3) (listed' := [true, true, true, true, false, false, false, false, false, false, false, false, false, false, false, false, false, false, false, false, false, false, false, false, false, false, false, false, false, false, false, false, false, false, false, false, false, false]) rfl (by kernel_rfl) (fun w H => x_load (v := .int .u32 _) Try.underlying22 rfl rfl (H.cellAt .zero rfl)) H rfl ?_ | refine WG_take (i := 3) (listed' := [true, true, true, true, false, false, false, false, false, false, false, false, false, false, false, false, false, false, false, false, false, false, false, false, false, false, false, false, false, false, false, false, false, false, false, false, false, false]) rfl (by kernel_rfl) (fun w H => x_load (v := .int .u32 _) Try.underlying22 rfl rfl (H.cellAt (.succ .zero) rfl)) H rfl ?_ | refine WG_take (i := 3) (listed' := [true, true, true, true, false, false, false, false, false, false, false, false, false, false, false, false, false, false, false, false, false, false, false, false, false, false, false, false, false, false, false, false, false, false, false, false, false, false]) rfl (by kernel_rfl) (fun w H => x_load (v := .int .u32 _) Try.underlying22 rfl rfl (H.cellAt (.succ (.succ .zero)) rfl)) H rfl ?_ | refine WG_take (i := 3) (listed' := [true, true, true, true, false, false, false, false, false, false, false, false, false, false, false, false, false, false, false, false, false, false, false, false, false, false, false, false, false, false, false, false, false, false, false, false, false, false]) rfl (by kernel_rfl) (fun w H => x_load (v := .int .u32 _) Try.underlying22 rfl rfl (H.cellAt (.succ (.succ (.succ .zero))) rfl)) H rfl ?_ | refine WG_take (i := 3) (listed' := [true, true, true, true, false, false, false, false, false, false, false, false, false, false, false, false, false, false, false, false, false, false, false, false, false, false, false, false, false, false, false, false, false, false, false, false, false, false]) rfl (by kernel_rfl) (fun w H => x_load (v := .int .u32 _) Try.underlying22 rfl rfl (H.cellAt (.succ (.succ (.succ (.succ .zero)))) rfl)) H rfl ?_ | refine WG_take (i := 3) (listed' := [true, true, true, true, false, false, false, false, false, false, false, false, false, false, false, false, false, false, false, false, false, false, false, false, false, false, false, false, false, false, false, false, false, false, false, false, false, false]) rfl (by kernel_rfl) (fun w H => x_load (v := .int .u32 _) Try.underlying22 rfl rfl (H.cellAt (.succ (.succ (.succ (.succ (.succ .zero))))) rfl)) H rfl ?_ | refine WG_take (i := 3) (listed' := [true, true, true, true, false, false, false, false, false, false, false, false, false, false, false, false, false, false, false, false, false, false, false, false, false, false, false, false, false, false, false, false, false, false, false, false, false, false]) rfl (by kernel_rfl) (fun w H => x_load Try.underlying22 rfl rfl (H.rnum .zero (by omega) (by omega))) H rfl ?_ | refine WG_take (i := 3) (listed' := [true, true, true, true, false, false, false, false, false, false, false, false, false, false, false, false, false, false, false, false, false, false, false, false, false, false, false, false, false, false, false, false, false, false, false, false, false, false]) rfl (by kernel_rfl) (fun w H => x_load Try.underlying22 rfl rfl (H.rnum (.succ .zero) (by omega) (by omega))) H rfl ?_ | refine WG_take (i := 3) (listed' := [true, true, true, true, false, false, false, false, false, false, false, false, false, false, false, false, false, false, false, false, false, false, false, false, false, false, false, false, false, false, false, false, false, false, false, false, false, false]) rfl (by kernel_rfl) (fun w H => x_load Try.underlying22 rfl rfl (H.rnum (.succ (.succ .zero)) (by omega) (by omega))) H rfl ?_ | refine WG_take (i := 3) (listed' := [true, true, true, true, false, false, false, false, false, false, false, false, false, false, false, false, false, false, false, false, false, false, false, false, false, false, false, false, false, false, false, false, false, false, false, false, false, false]) rfl (by kernel_rfl) (fun w H => x_load Try.underlying22 rfl rfl (H.onum .zero (by omega) (by omega))) H rfl ?_ | refine WG_take (i := 3) (listed' := [true, true, true, true, false, false, false, false, false, false, false, false, false, false, false, false, false, false, false, false, false, false, false, false, false, false, false, false, false, false, false, false, false, false, false, false, false, false]) rfl (by kernel_rfl) (fun w H => x_load Try.underlying22 rfl rfl (H.onum (.succ .zero) (by omega) (by omega))) H rfl ?_ | refine WG_take (i := 3) (listed' := [true, true, true, true, false, false, false, false, false, false, false, false, false, false, false, false, false, false, false, false, false, false, false, false, false, false, false, false, false, false, false, false, false, false, false, false, false, false]) rfl (by kernel_rfl) (fun w H => x_load Try.underlying22 rfl rfl (H.onum (.succ (.succ .zero)) (by omega) (by omega))) H rfl ?_
            refine WG_take (i := 4) (listed' := [true, true, true, true, true, false, false, false, false, false, false, false, false, false, false, false, false, false, false, false, false, false, false, false, false, false, false, false, false, false, false, false, false, false, false, false, false, false]) rfl (by kernel_rfl) (fun w H => x_fieldAddr (n := 0) (o' := 3) Try.underlying26 rfl (by kernel_rfl) rfl rfl) H rfl ?_
            first | refine WG_take (i := 5) (listed' := [true, true, true, true, true, true, false, false, false, false, false, false, false, false, false, false, false, false, false, false, false, false, false, false, false, false, false, false, false, false, false, false, false, false, false, false, false, false]) rfl (by kernel_rfl) (fun w H => x_load (v := .int .u32 _) Try.underlying22 rfl rfl (H.cellAt .zero rfl)) H rfl ?_ | refine WG_take (i := 5) (listed' := [true, true, true, true, true, true, false, false, false, false, false, false, false, false, false, false, false, false, false, false, false, false, false, false, false, false, false, false, false, false, false, false, false, false, false, false, false, false]) rfl (by kernel_rfl) (fun w H => x_load (v := .int .u32 _) Try.underlying22 rfl rfl (H.cellAt (.succ .zero) rfl)) H rfl ?_ | refine WG_take (i := 5) (listed' := [true, true, true, true, true, true, false, false, false, false, false, false, false, false, false, false, false, false, false, false, false, false, false, false, false, false, false, false, false, false, false, false, false, false, false, false, false, false]) rfl (by kernel_rfl) (fun w H => x_load (v := .int .u32 _) Try.underlying22 rfl rfl (H.cellAt (.succ (.succ .zero)) rfl)) H rfl ?_ | refine WG_take (i := 5) (listed' := [true, true, true, true, true, true, false, false, false, false, false, false, false, false, false, false, false, false, false, false, false, false, false, false, false, false, false, false, false, false, false, false, false, false, false, false, false, false]) rfl (by kernel_rfl) (fun w H => x_load (v := .int .u32 _) Try.underlying22 rfl rfl (H.cellAt (.succ (.succ (.succ .zero))) rfl)) H rfl ?_ | refine WG_take (i := 5) (listed' := [true, true, true, true, true, true, false, false, false, false, false, false, false, false, false, false, false, false, false, false, false, false, false, false, false, false, false, false, false, false, false, false, false, false, false, false, false, false]) rfl (by kernel_rfl) (fun w H => x_load (v := .int .u32 _) Try.underlying22 rfl rfl (H.cellAt (.succ (.succ (.succ (.succ .zero)))) rfl)) H rfl ?_ | refine WG_take (i := 5) (listed' := [true, true, true, true, true, true, false, false, false, false, false, false, false, false, false, false, false, false, false, false, false, false, false, false, false, false, false, false, false, false, false, false, false, false, false, false, false, false]) rfl (by kernel_rfl) (fun w H => x_load (v := .int .u32 _) Try.underlying22 rfl rfl (H.cellAt (.succ (.succ (.succ (.succ (.succ .zero))))) rfl)) H rfl ?_ | refine WG_take (i := 5) (listed' := [true, true, true, true, true, true, false, false, false, false, false, false, false, false, false, false, false, false, false, false, false, false, false, false, false, false, false, false, false, false, false, false, false, false, false, false, false, false]) rfl (by kernel_rfl) (fun w H => x_load Try.underlying22 rfl rfl (H.rnum .zero (by omega) (by omega))) H rfl ?_ | refine WG_take (i := 5) (listed' := [true, true, true, true, true, true, false, false, false, false, false, false, false, false, false, false, false, false, false, false, false, false, false, false, false, false, false, false, false, false, false, false, false, false, false, false, false, false]) rfl (by kernel_rfl) (fun w H => x_load Try.underlying22 rfl rfl (H.rnum (.succ .zero) (by omega) (by omega))) H rfl ?_ | refine WG_take (i := 5) (listed' := [true, true, true, true, true, true, false, false, false, false, false, false, false, false, false, false, false, false, false, false, false, false, false, false, false, false, false, false, false, false, false, false, false, false, false, false, false, false]) rfl (by kernel_rfl) (fun w H => x_load Try.underlying22 rfl rfl (H.rnum (.succ (.succ .zero)) (by omega) (by omega))) H rfl ?_ | refine WG_take (i := 5) (listed' := [true, true, true, true, true, true, false, false, false, false, false, false, false, false, false, false, false, false, false, false, false, false, false, false, false, false, false, false, false, false, false, false, false, false, false, false, false, false]) rfl (by kernel_rfl) (fun w H => x_load Try.underlying22 rfl rfl (H.onum .zero (by omega) (by omega))) H rfl ?_ | refine WG_take (i := 5) (listed' := [true, true, true, true, true, true, false, false, false, false, false, false, false, false, false, false, false, false, false, false, false, false, false, false, false, false, false, false, false, false, false, false, false, false, false, false, false, false]) rfl (by kernel_rfl) (fun w H => x_load Try.underlying22 rfl rfl (H.onum (.succ .zero) (by omega) (by omega))) H rfl ?_ | refine WG_take (i := 5) (listed' := [true, true, true, true, true, true, false, false, false, false, false, false, false, false, false, false, false, false, false, false, false, false, false, false, false, false, false, false, false, false, false, false, false, false, false, false, false, false]) rfl (by kernel_rfl) (fun w H => x_load Try.underlying22 rfl rfl (H.onum (.succ (.succ .zero)) (by omega) (by omega))) H rfl ?_
            refine WG_take (i := 6) (listed' := [true, true, true, true, true, true, true, false, false, false, false, false, false, false, false, false, false, false, false, false, false, false, false, false, false, false, false, false, false, false, false, false, false, false, false, false, false, false]) rfl (by kernel_rfl) (fun w H => x_binop rfl rfl (r_neq _ _ _ _)) H rfl ?_
            refine WG_take (i := 7) (listed' := [true, true, true, true, true, true, true, true, false, false, false, false, false, false, false, false, false, false, false, false, false, false, false, false, false, false, false, false, false, false, false, false, false, false, false, false, false, false]) rfl (by kernel_rfl) (fun w H => x_move (v := .bool _) rfl) H rfl ?_
            first | refine WG_cased (t := 69) rfl (fun h69 => ?_) (fun h69 => ?_) | refine WG_casen (t := 69) rfl (fun h69 => ?_) (fun h69 => ?_) | refine WG_case (t := 69) rfl (fun h69 => ?_) (fun h69 => ?_)
            · exact absurd hyk h69
            · refine WG_takeG (i := 8) (listed' := [true, true, true, true, true, true, true, true, true, false, false, false, false, false, false, false, false, false, false, false, false, false, false, false, false, false, false, false, false, false, false, false, false, false, false, false, false, false]) rfl (by kernel_rfl) rfl rfl rfl (fun w H => x_move (v := .int .i64 _) rfl) H rfl ?_
              refine WG_takeG (i := 9) (listed' := [true, true, true, true, true, true, true, true, true, true, false, false, false, false, false, false, false, false, false, false, false, false, false, false, false, false, false, false, false, false, false, false, false, false, false, false, false, false]) rfl (by kernel_rfl) rfl rfl rfl (fun w H => x_move (v := .int .i64 _) rfl) H rfl ?_
              refine WG_takeG (i := 10) (listed' := [true, true, true, true, true, true, true, true, true, true, true, false, false, false, false, false, false, false, false, false, false, false, false, false, false, false, false, false, false, false, false, false, false, false, false, false, false, false]) rfl (by kernel_rfl) rfl rfl rfl (fun w H => x_binop rfl rfl (r_neq _ _ _ _)) H rfl ?_
              refine WG_takeG (i := 11) (listed' := [true, true, true, true, true, true, true, true, true, true, true, true, false, false, false, false, false, false, false, false, false, false, false, false, false, false, false, false, false, false, false, false, false, false, false, false, false, false]) rfl (by kernel_rfl) rfl rfl rfl (fun w H => x_move (v := .bool _) rfl) H rfl ?_
              first | refine WG_cased (t := 73) rfl (fun h73 => ?_) (fun h73 => ?_) | refine WG_casen (t := 73) rfl (fun h73 => ?_) (fun h73 => ?_) | refine WG_case (t := 73) rfl (fun h73 => ?_) (fun h73 => ?_)
              · refine WG_takeG (i := 12) (listed' := [true, true, true, true, true, true, true, true, true, true, true, true, true, false, false, false, false, false, false, false, false, false, false, false, false, false, false, false, false, false, false, false, false, false, false, false, false, false]) rfl (by kernel_rfl) rfl rfl rfl (fun w H => x_move (v := .slice _ _ _) rfl) H rfl ?_
                refine WG_takeG (i := 13) (listed' := [true, true, true, true, true, true, true, true, true, true, true, true, true, true, false, false, false, false, false, false, false, false, false, false, false, false, false, false, false, false, false, false, false, false, false, false, false, false]) rfl (by kernel_rfl) rfl rfl rfl (fun w H => x_move (v := .int .i64 _) rfl) H rfl ?_
                refine WG_takeG (i := 14) (listed' := [true, true, true, true, true, true, true, true, true, true, true, true, true, true, true, false, false, false, false, false, false, false, false, false, false, false, false, false, false, false, false, false, false, false, false, false, false, false]) rfl (by kernel_rfl) rfl rfl rfl (fun w H => x_indexAddr (s := 1) Try.underlying33 (by kernel_rfl) rfl rfl (by omega) (by omega) (by first | rfl | assumption | exact H.rsomen .zero (by omega) | exact H.rsomen (.succ .zero) (by omega) | exact H.rsomen (.succ (.succ .zero)) (by omega) | exact H.osomen .zero (by omega) | exact H.osomen (.succ .zero) (by omega) | exact H.osomen (.succ (.succ .zero)) (by omega)) rfl) H rfl ?_
                first | refine WG_takeG (i := 15) (listed' := [true, true, true, true, true, true, true, true, true, true, true, true, true, true, true, true, false, false, false, false, false, false, false, false, false, false, false, false, false, false, false, false, false, false, false, false, false, false]) rfl (by kernel_rfl) rfl rfl rfl (fun w H => x_load (v := .int .u32 _) Try.underlying22 rfl rfl (H.cellAt .zero rfl)) H rfl ?_ | refine WG_takeG (i := 15) (listed' := [true, true, true, true, true, true, true, true, true, true, true, true, true, true, true, true, false, false, false, false, false, false, false, false, false, false, false, false, false, false, false, false, false, false, false, false, false, false]) rfl (by kernel_rfl) rfl rfl rfl (fun w H => x_load (v := .int .u32 _) Try.underlying22 rfl rfl (H.cellAt (.succ .zero) rfl)) H rfl ?_ | refine WG_takeG (i := 15) (listed' := [true, true, true, true, true, true, true, true, true, true, true, true, true, true, true, true, false, false, false, false, false, false, false, false, false, false, false, false, false, false, false, false, false, false, false, false, false, false]) rfl (by kernel_rfl) rfl rfl rfl (fun w H => x_load (v := .int .u32 _) Try.underlying22 rfl rfl (H.cellAt (.succ (.succ .zero)) rfl)) H rfl ?_ | refine WG_takeG (i := 15) (listed' := [true, true, true, true, true, true, true, true, true, true, true, true, true, true, true, true, false, false, false, false, false, false, false, false, false, false, false, false, false, false, false, false, false, false, false, false, false, false]) rfl (by kernel_rfl) rfl rfl rfl (fun w H => x_load (v := .int .u32 _) Try.underlying22 rfl rfl (H.cellAt (.succ (.succ (.succ .zero))) rfl)) H rfl ?_ | refine WG_takeG (i := 15) (listed' := [true, true, true, true, true, true, true, true, true, true, true, true, true, true, true, true, false, false, false, false, false, false, false, false, false, false, false, false, false, false, false, false, false, false, false, false, false, false]) rfl (by kernel_rfl) rfl rfl rfl (fun w H => x_load (v := .int .u32 _) Try.underlying22 rfl rfl (H.cellAt (.succ (.succ (.succ (.succ .zero)))) rfl)) H rfl ?_ | refine WG_takeG (i := 15) (listed' := [true, true, true, true, true, true, true, true, true, true, true, true, true, true, true, true, false, false, false, false, false, false, false, false, false, false, false, false, false, false, false, false, false, false, false, false, false, false]) rfl (by kernel_rfl) rfl rfl rfl (fun w H => x_load (v := .int .u32 _) Try.underlying22 rfl rfl (H.cellAt (.succ (.succ (.succ (.succ (.succ .zero))))) rfl)) H rfl ?_ | refine WG_takeG (i := 15) (listed' := [true, true, true, true, true, true, true, true, true, true, true, true, true, true, true, true, false, false, false, false, false, false, false, false, false, false, false, false, false, false, false, false, false, false, false, false, false, false]) rfl (by kernel_rfl) rfl rfl rfl (fun w H => x_load Try.underlying22 rfl rfl (H.rnum .zero (by omega) (by omega))) H rfl ?_ | refine WG_takeG (i := 15) (listed' := [true, true, true, true, true, true, true, true, true, true, true, true, true, true, true, true, false, false, false, false, false, false, false, false, false, false, false, false, false, false, false, false, false, false, false, false, false, false]) rfl (by kernel_rfl) rfl rfl rfl (fun w H => x_load Try.underlying22 rfl rfl (H.rnum (.succ .zero) (by omega) (by omega))) H rfl ?_ | refine WG_takeG (i := 15) (listed' := [true, true, true, true, true, true, true, true, true, true, true, true, true, true, true, true, false, false, false, false, false, false, false, false, false, false, false, false, false, false, false, false, false, false, false, false, false, false]) rfl (by kernel_rfl) rfl rfl rfl (fun w H => x_load Try.underlying22 rfl rfl (H.rnum (.succ (.succ .zero)) (by omega) (by omega))) H rfl ?_ | refine WG_takeG (i := 15) (listed' := [true, true, true, true, true, true, true, true, true, true, true, true, true, true, true, true, false, false, false, false, false, false, false, false, false, false, false, false, false, false, false, false, false, false, false, false, false, false]) rfl (by kernel_rfl) rfl rfl rfl (fun w H => x_load Try.underlying22 rfl rfl (H.onum .zero (by omega) (by omega))) H rfl ?_ | refine WG_takeG (i := 15) (listed' := [true, true, true, true, true, true, true, true, true, true, true, true, true, true, true, true, false, false, false, false, false, false, false, false, false, false, false, false, false, false, false, false, false, false, false, false, false, false]) rfl (by kernel_rfl) rfl rfl rfl (fun w H => x_load Try.underlying22 rfl rfl (H.onum (.succ .zero) (by omega) (by omega))) H rfl ?_ | refine WG_takeG (i := 15) (listed' := [true, true, true, true, true, true, true, true, true, true, true, true, true, true, true, true, false, false, false, false, false, false, false, false, false, false, false, false, false, false, false, false, false, false, false, false, false, false]) rfl (by kernel_rfl) rfl rfl rfl (fun w H => x_load Try.underlying22 rfl rfl (H.onum (.succ (.succ .zero)) (by omega) (by omega))) H rfl ?_
                refine WG_takeG (i := 16) (listed' := [true, true, true, true, true, true, true, true, true, true, true, true, true, true, true, true, true, false, false, false, false, false, false, false, false, false, false, false, false, false, false, false, false, false, false, false, false, false]) rfl (by kernel_rfl) rfl rfl rfl (fun w H => x_fieldAddr (n := 0) (o' := 3) Try.underlying26 rfl (by kernel_rfl) rfl rfl) H rfl ?_
                first | refine WG_takeG (i := 17) (listed' := [true, true, true, true, true, true, true, true, true, true, true, true, true, true, true, true, true, true, false, false, false, false, false, false, false, false, false, false, false, false, false, false, false, false, false, false, false, false]) rfl (by kernel_rfl) rfl rfl rfl (fun w H => x_load (v := .int .u32 _) Try.underlying22 rfl rfl (H.cellAt .zero rfl)) H rfl ?_ | refine WG_takeG (i := 17) (listed' := [true, true, true, true, true, true, true, true, true, true, true, true, true, true, true, true, true, true, false, false, false, false, false, false, false, false, false, false, false, false, false, false, false, false, false, false, false, false]) rfl (by kernel_rfl) rfl rfl rfl (fun w H => x_load (v := .int .u32 _) Try.underlying22 rfl rfl (H.cellAt (.succ .zero) rfl)) H rfl ?_ | refine WG_takeG (i := 17) (listed' := [true, true, true, true, true, true, true, true, true, true, true, true, true, true, true, true, true, true, false, false, false, false, false, false, false, false, false, false, false, false, false, false, false, false, false, false, false, false]) rfl (by kernel_rfl) rfl rfl rfl (fun w H => x_load (v := .int .u32 _) Try.underlying22 rfl rfl (H.cellAt (.succ (.succ .zero)) rfl)) H rfl ?_ | refine WG_takeG (i := 17) (listed' := [true, true, true, true, true, true, true, true, true, true, true, true, true, true, true, true, true, true, false, false, false, false, false, false, false, false, false, false, false, false, false, false, false, false, false, false, false, false]) rfl (by kernel_rfl) rfl rfl rfl (fun w H => x_load (v := .int .u32 _) Try.underlying22 rfl rfl (H.cellAt (.succ (.succ (.succ .zero))) rfl)) H rfl ?_ | refine WG_takeG (i := 17) (listed' := [true, true, true, true, true, true, true, true, true, true, true, true, true, true, true, true, true, true, false, false, false, false, false, false, false, false, false, false, false, false, false, false, false, false, false, false, false, false]) rfl (by kernel_rfl) rfl rfl rfl (fun w H => x_load (v := .int .u32 _) Try.underlying22 rfl rfl (H.cellAt (.succ (.succ (.succ (.succ .zero)))) rfl)) H rfl ?_ | refine WG_takeG (i := 17) (listed' := [true, true, true, true, true, true, true, true, true, true, true, true, true, true, true, true, true, true, false, false, false, false, false, false, false, false, false, false, false, false, false, false, false, false, false, false, false, false]) rfl (by kernel_rfl) rfl rfl rfl (fun w H => x_load (v := .int .u32 _) Try.underlying22 rfl rfl (H.cellAt (.succ (.succ (.succ (.succ (.succ .zero))))) rfl)) H rfl ?_ | refine WG_takeG (i := 17) (listed' := [true, true, true, true, true, true, true, true, true, true, true, true, true, true, true, true, true, true, false, false, false, false, false, false, false, false, false, false, false, false, false, false, false, false, false, false, false, false]) rfl (by kernel_rfl) rfl rfl rfl (fun w H => x_load Try.underlying22 rfl rfl (H.rnum .zero (by omega) (by omega))) H rfl ?_ | refine WG_takeG (i := 17) (listed' := [true, true, true, true, true, true, true, true, true, true, true, true, true, true, true, true, true, true, false, false, false, false, false, false, false, false, false, false, false, false, false, false, false, false, false, false, false, false]) rfl (by kernel_rfl) rfl rfl rfl (fun w H => x_load Try.underlying22 rfl rfl (H.rnum (.succ .zero) (by omega) (by omega))) H rfl ?_ | refine WG_takeG (i := 17) (listed' := [true, true, true, true, true, true, true, true, true, true, true, true, true, true, true, true, true, true, false, false, false, false, false, false, false, false, false, false, false, false, false, false, false, false, false, false, false, false]) rfl (by kernel_rfl) rfl rfl rfl (fun w H => x_load Try.underlying22 rfl rfl (H.rnum (.succ (.succ .zero)) (by omega) (by omega))) H rfl ?_ | refine WG_takeG (i := 17) (listed' := [true, true, true, true, true, true, true, true, true, true, true, true, true, true, true, true, true, true, false, false, false, false, false, false, false, false, false, false, false, false, false, false, false, false, false, false, false, false]) rfl (by kernel_rfl) rfl rfl rfl (fun w H => x_load Try.underlying22 rfl rfl (H.onum .zero (by omega) (by omega))) H rfl ?_ | refine WG_takeG (i := 17) (listed' := [true, true, true, true, true, true, true, true, true, true, true, true, true, true, true, true, true, true, false, false, false, false, false, false, false, false, false, false, false, false, false, false, false, false, false, false, false, false]) rfl (by kernel_rfl) rfl rfl rfl (fun w H => x_load Try.underlying22 rfl rfl (H.onum (.succ .zero) (by omega) (by omega))) H rfl ?_ | refine WG_takeG (i := 17) (listed' := [true, true, true, true, true, true, true, true, true, true, true, true, true, true, true, true, true, true, false, false, false, false, false, false, false, false, false, false, false, false, false, false, false, false, false, false, false, false]) rfl (by kernel_rfl) rfl rfl rfl (fun w H => x_load Try.underlying22 rfl rfl (H.onum (.succ (.succ .zero)) (by omega) (by omega))) H rfl ?_
                refine WG_takeG (i := 18) (listed' := [true, true, true, true, true, true, true, true, true, true, true, true, true, true, true, true, true, true, true, false, false, false, false, false, false, false, false, false, false, false, false, false, false, false, false, false, false, false]) rfl (by kernel_rfl) rfl rfl rfl (fun w H => x_binop rfl rfl (r_neq _ _ _ _)) H rfl ?_
                refine WG_takeG (i := 19) (listed' := [true, true, true, true, true, true, true, true, true, true, true, true, true, true, true, true, true, true, true, true, false, false, false, false, false, false, false, false, false, false, false, false, false, false, false, false, false, false]) rfl (by kernel_rfl) rfl rfl rfl (fun w H => x_pick (v := .bool _) rfl rfl) H rfl ?_
                refine WG_take (i := 20) (listed' := [true, true, true, true, true, true, true, true, true, true, true, true, true, true, true, true, true, true, true, true, true, false, false, false, false, false, false, false, false, false, false, false, false, false, false, false, false, false]) rfl (by kernel_rfl) (fun w H => x_pick (v := .bool _) rfl rfl) H rfl ?_
                refine WG_take (i := 21) (listed' := [true, true, true, true, true, true, true, true, true, true, true, true, true, true, true, true, true, true, true, true, true, true, false, false, false, false, false, false, false, false, false, false, false, false, false, false, false, false]) rfl (by kernel_rfl) (fun w H => x_move (v := .bool _) rfl) H rfl ?_
                first | refine WG_cased (t := 83) rfl (fun h83 => ?_) (fun h83 => ?_) | refine WG_casen (t := 83) rfl (fun h83 => ?_) (fun h83 => ?_) | refine WG_case (t := 83) rfl (fun h83 => ?_) (fun h83 => ?_)
                · exact absurd (by rw [hxk, if_neg (fun e => h73 e.2)]) h83
                · refine WG_takeG (i := 22) (listed' := [true, true, true, true, true, true, true, true, true, true, true, true, true, true, true, true, true, true, true, true, true, true, true, false, false, false, false, false, false, false, false, false, false, false, false, false, false, false]) rfl (by kernel_rfl) rfl rfl rfl (fun w H => x_move (v := .int .i64 _) rfl) H rfl ?_
                  refine WG_takeG (i := 23) (listed' := [true, true, true, true, true, true, true, true, true, true, true, true, true, true, true, true, true, true, true, true, true, true, true, true, false, false, false, false, false, false, false, false, false, false, false, false, false, false]) rfl (by kernel_rfl) rfl rfl rfl (fun w H => x_move (v := .int .i64 _) rfl) H rfl ?_
                  refine WG_takeG (i := 24) (listed' := [true, true, true, true, true, true, true, true, true, true, true, true, true, true, true, true, true, true, true, true, true, true, true, true, true, false, false, false, false, false, false, false, false, false, false, false, false, false]) rfl (by kernel_rfl) rfl rfl rfl (fun w H => x_binop rfl rfl (r_eql _ _ _ _)) H rfl ?_
                  refine WG_takeG (i := 25) (listed' := [true, true, true, true, true, true, true, true, true, true, true, true, true, true, true, true, true, true, true, true, true, true, true, true, true, true, false, false, false, false, false, false, false, false, false, false, false, false]) rfl (by kernel_rfl) rfl rfl rfl (fun w H => x_move (v := .bool _) rfl) H rfl ?_
                  first | refine WG_cased (t := 87) rfl (fun h87 => ?_) (fun h87 => ?_) | refine WG_casen (t := 87) rfl (fun h87 => ?_) (fun h87 => ?_) | refine WG_case (t := 87) rfl (fun h87 => ?_) (fun h87 => ?_)
                  · refine WG_takeG (i := 26) (listed' := [true, true, true, true, true, true, true, true, true, true, true, true, true, true, true, true, true, true, true, true, true, true, true, true, true, true, true, false, false, false, false, false, false, false, false, false, false, false]) rfl (by kernel_rfl) rfl rfl rfl (fun w H => x_move (v := .int .i64 _) rfl) H rfl ?_
                    refine WG_takeG (i := 27) (listed' := [true, true, true, true, true, true, true, true, true, true, true, true, true, true, true, true, true, true, true, true, true, true, true, true, true, true, true, true, false, false, false, false, false, false, false, false, false, false]) rfl (by kernel_rfl) rfl rfl rfl (fun w H => x_binop rfl rfl (r_eql _ _ _ _)) H rfl ?_
                    refine WG_takeG (i := 28) (listed' := [true, true, true, true, true, true, true, true, true, true, true, true, true, true, true, true, true, true, true, true, true, true, true, true, true, true, true, true, true, false, false, false, false, false, false, false, false, false]) rfl (by kernel_rfl) rfl rfl rfl (fun w H => x_pick (v := .bool _) rfl rfl) H rfl ?_
                    refine WG_takeG (i := 29) (listed' := [true, true, true, true, true, true, true, true, true, true, true, true, true, true, true, true, true, true, true, true, true, true, true, true, true, true, true, true, true, true, false, false, false, false, false, false, false, false]) rfl (by kernel_rfl) rfl rfl rfl (fun w H => x_move (v := .bool _) rfl) H rfl ?_
                    first | refine WG_cased (t := 91) rfl (fun h91 => ?_) (fun h91 => ?_) | refine WG_casen (t := 91) rfl (fun h91 => ?_) (fun h91 => ?_) | refine WG_case (t := 91) rfl (fun h91 => ?_) (fun h91 => ?_)
                    · refine WG_takeG (i := 30) (listed' := [true, true, true, true, true, true, true, true, true, true, true, true, true, true, true, true, true, true, true, true, true, true, true, true, true, true, true, true, true, true, true, false, false, false, false, false, false, false]) rfl (by kernel_rfl) rfl rfl rfl (fun w H => x_move (v := .slice _ _ _) rfl) H rfl ?_
                      refine WG_takeG (i := 31) (listed' := [true, true, true, true, true, true, true, true, true, true, true, true, true, true, true, true, true, true, true, true, true, true, true, true, true, true, true, true, true, true, true, true, false, false, false, false, false, false]) rfl (by kernel_rfl) rfl rfl rfl (fun w H => x_move (v := .int .i64 _) rfl) H rfl ?_
                      refine WG_takeG (i := 32) (listed' := [true, true, true, true, true, true, true, true, true, true, true, true, true, true, true, true, true, true, true, true, true, true, true, true, true, true, true, true, true, true, true, true, true, false, false, false, false, false]) rfl (by kernel_rfl) rfl rfl rfl (fun w H => x_indexAddr (s := 1) Try.underlying33 (by kernel_rfl) rfl rfl (by omega) (by omega) (by first | rfl | assumption | exact H.rsomen .zero (by omega) | exact H.rsomen (.succ .zero) (by omega) | exact H.rsomen (.succ (.succ .zero)) (by omega) | exact H.osomen .zero (by omega) | exact H.osomen (.succ .zero) (by omega) | exact H.osomen (.succ (.succ .zero)) (by omega)) rfl) H rfl ?_
                      first | refine WG_takeG (i := 33) (listed' := [true, true, true, true, true, true, true, true, true, true, true, true, true, true, true, true, true, true, true, true, true, true, true, true, true, true, true, true, true, true, true, true, true, true, false, false, false, false]) rfl (by kernel_rfl) rfl rfl rfl (fun w H => x_load (v := .int .u32 _) Try.underlying22 rfl rfl (H.cellAt .zero rfl)) H rfl ?_ | refine WG_takeG (i := 33) (listed' := [true, true, true, true, true, true, true, true, true, true, true, true, true, true, true, true, true, true, true, true, true, true, true, true, true, true, true, true, true, true, true, true, true, true, false, false, false, false]) rfl (by kernel_rfl) rfl rfl rfl (fun w H => x_load (v := .int .u32 _) Try.underlying22 rfl rfl (H.cellAt (.succ .zero) rfl)) H rfl ?_ | refine WG_takeG (i := 33) (listed' := [true, true, true, true, true, true, true, true, true, true, true, true, true, true, true, true, true, true, true, true, true, true, true, true, true, true, true, true, true, true, true, true, true, true, false, false, false, false]) rfl (by kernel_rfl) rfl rfl rfl (fun w H => x_load (v := .int .u32 _) Try.underlying22 rfl rfl (H.cellAt (.succ (.succ .zero)) rfl)) H rfl ?_ | refine WG_takeG (i := 33) (listed' := [true, true, true, true, true, true, true, true, true, true, true, true, true, true, true, true, true, true, true, true, true, true, true, true, true, true, true, true, true, true, true, true, true, true, false, false, false, false]) rfl (by kernel_rfl) rfl rfl rfl (fun w H => x_load (v := .int .u32 _) Try.underlying22 rfl rfl (H.cellAt (.succ (.succ (.succ .zero))) rfl)) H rfl ?_ | refine WG_takeG (i := 33) (listed' := [true, true, true, true, true, true, true, true, true, true, true, true, true, true, true, true, true, true, true, true, true, true, true, true, true, true, true, true, true, true, true, true, true, true, false, false, false, false]) rfl (by kernel_rfl) rfl rfl rfl (fun w H => x_load (v := .int .u32 _) Try.underlying22 rfl rfl (H.cellAt (.succ (.succ (.succ (.succ .zero)))) rfl)) H rfl ?_ | refine WG_takeG (i := 33) (listed' := [true, true, true, true, true, true, true, true, true, true, true, true, true, true, true, true, true, true, true, true, true, true, true, true, true, true, true, true, true, true, true, true, true, true, false, false, false, false]) rfl (by kernel_rfl) rfl rfl rfl (fun w H => x_load (v := .int .u32 _) Try.underlying22 rfl rfl (H.cellAt (.succ (.succ (.succ (.succ (.succ .zero))))) rfl)) H rfl ?_ | refine WG_takeG (i := 33) (listed' := [true, true, true, true, true, true, true, true, true, true, true, true, true, true, true, true, true, true, true, true, true, true, true, true, true, true, true, true, true, true, true, true, true, true, false, false, false, false]) rfl (by kernel_rfl) rfl rfl rfl (fun w H => x_load Try.underlying22 rfl rfl (H.rnum .zero (by omega) (by omega))) H rfl ?_ | refine WG_takeG (i := 33) (listed' := [true, true, true, true, true, true, true, true, true, true, true, true, true, true, true, true, true, true, true, true, true, true, true, true, true, true, true, true, true, true, true, true, true, true, false, false, false, false]) rfl (by kernel_rfl) rfl rfl rfl (fun w H => x_load Try.underlying22 rfl rfl (H.rnum (.succ .zero) (by omega) (by omega))) H rfl ?_ | refine WG_takeG (i := 33) (listed' := [true, true, true, true, true, true, true, true, true, true, true, true, true, true, true, true, true, true, true, true, true, true, true, true, true, true, true, true, true, true, true, true, true, true, false, false, false, false]) rfl (by kernel_rfl) rfl rfl rfl (fun w H => x_load Try.underlying22 rfl rfl (H.rnum (.succ (.succ .zero)) (by omega) (by omega))) H rfl ?_ | refine WG_takeG (i := 33) (listed' := [true, true, true, true, true, true, true, true, true, true, true, true, true, true, true, true, true, true, true, true, true, true, true, true, true, true, true, true, true, true, true, true, true, true, false, false, false, false]) rfl (by kernel_rfl) rfl rfl rfl (fun w H => x_load Try.underlying22 rfl rfl (H.onum .zero (by omega) (by omega))) H rfl ?_ | refine WG_takeG (i := 33) (listed' := [true, true, true, true, true, true, true, true, true, true, true, true, true, true, true, true, true, true, true, true, true, true, true, true, true, true, true, true, true, true, true, true, true, true, false, false, false, false]) rfl (by kernel_rfl) rfl rfl rfl (fun w H => x_load Try.underlying22 rfl rfl (H.onum (.succ .zero) (by omega) (by omega))) H rfl ?_ | refine WG_takeG (i := 33) (listed' := [true, true, true, true, true, true, true, true, true, true, true, true, true, true, true, true, true, true, true, true, true, true, true, true, true, true, true, true, true, true, true, true, true, true, false, false, false, false]) rfl (by kernel_rfl) rfl rfl rfl (fun w H => x_load Try.underlying22 rfl rfl (H.onum (.succ (.succ .zero)) (by omega) (by omega))) H rfl ?_
                      refine WG_takeG (i := 34) (listed' := [true, true, true, true, true, true, true, true, true, true, true, true, true, true, true, true, true, true, true, true, true, true, true, true, true, true, true, true, true, true, true, true, true, true, true, false, false, false]) rfl (by kernel_rfl) rfl rfl rfl (fun w H => x_move (v := .int .u32 _) rfl) H rfl ?_
                      refine WG_takeG (i := 35) (listed' := [true, true, true, true, true, true, true, true, true, true, true, true, true, true, true, true, true, true, true, true, true, true, true, true, true, true, true, true, true, true, true, true, true, true, true, true, false, false]) rfl (by kernel_rfl) rfl rfl rfl (fun w H => x_binop rfl rfl (r_neq _ _ _ _)) H rfl ?_
                      refine WG_takeG (i := 36) (listed' := [true, true, true, true, true, true, true, true, true, true, true, true, true, true, true, true, true, true, true, true, true, true, true, true, true, true, true, true, true, true, true, true, true, true, true, true, true, false]) rfl (by kernel_rfl) rfl rfl rfl (fun w H => x_pick (v := .bool _) rfl rfl) H rfl ?_
                      refine WG_take (i := 37) (listed' := [true, true, true, true, true, true, true, true, true, true, true, true, true, true, true, true, true, true, true, true, true, true, true, true, true, true, true, true, true, true, true, true, true, true, true, true, true, true]) rfl (by kernel_rfl) (fun w H => x_pick (v := .bool _) rfl rfl) H rfl ?_
                      refine WG_done (by kernel_rfl) ?_
                      refine thenE_normal ?_
                      refine WC_ifd rfl (fun h99 => ?_) (fun h99 => ?_)
                      · exact absurd (by rw [hxk, if_pos ⟨h91, h87⟩]) h99
                      · refine WC_skip ?_
                        refine inBlockE_normal ?_
                        refine thenE_normal ?_
                        refine WC_region ?_
                        refine WL_x (x_binop rfl rfl (r_add_in (i64_in (by omega) (by omega)))) ?_
                        refine WL_x (x_move (v := .int .i64 _) rfl) ?_
                        refine WL_nil ?_
                        refine thenE_normal ?_
                        exact ⟨k + 1, ⟨by omega, by simp [upd], rfl, rfl, rfl, rfl, rfl, rfl, rfl, rfl, rfl, H⟩, by omega⟩
                    · refine WG_skip (i := 30) (listed' := [true, true, true, true, true, true, true, true, true, true, true, true, true, true, true, true, true, true, true, true, true, true, true, true, true, true, true, true, true, true, true, false, false, false, false, false, false, false]) rfl (by kernel_rfl) rfl rfl rfl H rfl ?_
                      refine WG_skip (i := 31) (listed' := [true, true, true, true, true, true, true, true, true, true, true, true, true, true, true, true, true, true, true, true, true, true, true, true, true, true, true, true, true, true, true, true, false, false, false, false, false, false]) rfl (by kernel_rfl) rfl rfl rfl H rfl ?_
                      refine WG_skip (i := 32) (listed' := [true, true, true, true, true, true, true, true, true, true, true, true, true, true, true, true, true, true, true, true, true, true, true, true, true, true, true, true, true, true, true, true, true, false, false, false, false, false]) rfl (by kernel_rfl) rfl rfl rfl H rfl ?_
                      refine WG_skip (i := 33) (listed' := [true, true, true, true, true, true, true, true, true, true, true, true, true, true, true, true, true, true, true, true, true, true, true, true, true, true, true, true, true, true, true, true, true, true, false, false, false, false]) rfl (by kernel_rfl) rfl rfl rfl H rfl ?_
                      refine WG_skip (i := 34) (listed' := [true, true, true, true, true, true, true, true, true, true, true, true, true, true, true, true, true, true, true, true, true, true, true, true, true, true, true, true, true, true, true, true, true, true, true, false, false, false]) rfl (by kernel_rfl) rfl rfl rfl H rfl ?_
                      refine WG_skip (i := 35) (listed' := [true, true, true, true, true, true, true, true, true, true, true, true, true, true, true, true, true, true, true, true, true, true, true, true, true, true, true, true, true, true, true, true, true, true, true, true, false, false]) rfl (by kernel_rfl) rfl rfl rfl H rfl ?_
                      refine WG_takeG (i := 36) (listed' := [true, true, true, true, true, true, true, true, true, true, true, true, true, true, true, true, true, true, true, true, true, true, true, true, true, true, true, true, true, true, true, true, true, true, true, true, true, false]) rfl (by kernel_rfl) rfl rfl rfl (fun w H => x_pick (v := .bool _) rfl rfl) H rfl ?_
                      refine WG_take (i := 37) (listed' := [true, true, true, true, true, true, true, true, true, true, true, true, true, true, true, true, true, true, true, true, true, true, true, true, true, true, true, true, true, true, true, true, true, true, true, true, true, true]) rfl (by kernel_rfl) (fun w H => x_pick (v := .bool _) rfl rfl) H rfl ?_
                      refine WG_done (by kernel_rfl) ?_
                      refine thenE_normal ?_
                      refine WC_no rfl ?_
                      refine WC_skip ?_
                      refine inBlockE_normal ?_
                      refine thenE_normal ?_
                      refine WC_region ?_
                      refine WL_x (x_binop rfl rfl (r_add_in (i64_in (by omega) (by omega)))) ?_
                      refine WL_x (x_move (v := .int .i64 _) rfl) ?_
                      refine WL_nil ?_
                      refine thenE_normal ?_
                      exact ⟨k + 1, ⟨by omega, by simp [upd], rfl, rfl, rfl, rfl, rfl, rfl, rfl, rfl, rfl, H⟩, by omega⟩
                  · refine WG_skip (i := 26) (listed' := [true, true, true, true, true, true, true, true, true, true, true, true, true, true, true, true, true, true, true, true, true, true, true, true, true, true, true, false, false, false, false, false, false, false, false, false, false, false]) rfl (by kernel_rfl) rfl rfl rfl H rfl ?_
                    refine WG_skip (i := 27) (listed' := [true, true, true, true, true, true, true, true, true, true, true, true, true, true, true, true, true, true, true, true, true, true, true, true, true, true, true, true, false, false, false, false, false, false, false, false, false, false]) rfl (by kernel_rfl) rfl rfl rfl H rfl ?_
                    refine WG_takeG (i := 28) (listed' := [true, true, true, true, true, true, true, true, true, true, true, true, true, true, true, true, true, true, true, true, true, true, true, true, true, true, true, true, true, false, false, false, false, false, false, false, false, false]) rfl (by kernel_rfl) rfl rfl rfl (fun w H => x_pick (v := .bool _) rfl rfl) H rfl ?_
                    refine WG_takeG (i := 29) (listed' := [true, true, true, true, true, true, true, true, true, true, true, true, true, true, true, true, true, true, true, true, true, true, true, true, true, true, true, true, true, true, false, false, false, false, false, false, false, false]) rfl (by kernel_rfl) rfl rfl rfl (fun w H => x_move (v := .bool _) rfl) H rfl ?_
                    refine WG_skip (i := 30) (listed' := [true, true, true, true, true, true, true, true, true, true, true, true, true, true, true, true, true, true, true, true, true, true, true, true, true, true, true, true, true, true, true, false, false, false, false, false, false, false]) rfl (by kernel_rfl) rfl rfl rfl H rfl ?_
                    refine WG_skip (i := 31) (listed' := [true, true, true, true, true, true, true, true, true, true, true, true, true, true, true, true, true, true, true, true, true, true, true, true, true, true, true, true, true, true, true, true, false, false, false, false, false, false]) rfl (by kernel_rfl) rfl rfl rfl H rfl ?_
                    refine WG_skip (i := 32) (listed' := [true, true, true, true, true, true, true, true, true, true, true, true, true, true, true, true, true, true, true, true, true, true, true, true, true, true, true, true, true, true, true, true, true, false, false, false, false, false]) rfl (by kernel_rfl) rfl rfl rfl H rfl ?_
                    refine WG_skip (i := 33) (listed' := [true, true, true, true, true, true, true, true, true, true, true, true, true, true, true, true, true, true, true, true, true, true, true, true, true, true, true, true, true, true, true, true, true, true, false, false, false, false]) rfl (by kernel_rfl) rfl rfl rfl H rfl ?_
                    refine WG_skip (i := 34) (listed' := [true, true, true, true, true, true, true, true, true, true, true, true, true, true, true, true, true, true, true, true, true, true, true, true, true, true, true, true, true, true, true, true, true, true, true, false, false, false]) rfl (by kernel_rfl) rfl rfl rfl H rfl ?_
                    refine WG_skip (i := 35) (listed' := [true, true, true, true, true, true, true, true, true, true, true, true, true, true, true, true, true, true, true, true, true, true, true, true, true, true, true, true, true, true, true, true, true, true, true, true, false, false]) rfl (by kernel_rfl) rfl rfl rfl H rfl ?_
                    refine WG_takeG (i := 36) (listed' := [true, true, true, true, true, true, true, true, true, true, true, true, true, true, true, true, true, true, true, true, true, true, true, true, true, true, true, true, true, true, true, true, true, true, true, true, true, false]) rfl (by kernel_rfl) rfl rfl rfl (fun w H => x_pick (v := .bool _) rfl rfl) H rfl ?_
                    refine WG_take (i := 37) (listed' := [true, true, true, true, true, true, true, true, true, true, true, true, true, true, true, true, true, true, true, true, true, true, true, true, true, true, true, true, true, true, true, true, true, true, true, true, true, true]) rfl (by kernel_rfl) (fun w H => x_pick (v := .bool _) rfl rfl) H rfl ?_
                    refine WG_done (by kernel_rfl) ?_
                    refine thenE_normal ?_
                    refine WC_no rfl ?_
                    refine WC_skip ?_
                    refine inBlockE_normal ?_
                    refine thenE_normal ?_
                    refine WC_region ?_
                    refine WL_x (x_binop rfl rfl (r_add_in (i64_in (by omega) (by omega)))) ?_
                    refine WL_x (x_move (v := .int .i64 _) rfl) ?_
                    refine WL_nil ?_
                    refine thenE_normal ?_
                    exact ⟨k + 1, ⟨by omega, by simp [upd], rfl, rfl, rfl, rfl, rfl, rfl, rfl, rfl, rfl, H⟩, by omega⟩
              · refine WG_skip (i := 12) (listed' := [true, true, true, true, true, true, true, true, true, true, true, true, true, false, false, false, false, false, false, false, false, false, false, false, false, false, false, false, false, false, false, false, false, false, false, false, false, false]) rfl (by kernel_rfl) rfl rfl rfl H rfl ?_
                refine WG_skip (i := 13) (listed' := [true, true, true, true, true, true, true, true, true, true, true, true, true, true, false, false, false, false, false, false, false, false, false, false, false, false, false, false, false, false, false, false, false, false, false, false, false, false]) rfl (by kernel_rfl) rfl rfl rfl H rfl ?_
                refine WG_skip (i := 14) (listed' := [true, true, true, true, true, true, true, true, true, true, true, true, true, true, true, false, false, false, false, false, false, false, false, false, false, false, false, false, false, false, false, false, false, false, false, false, false, false]) rfl (by kernel_rfl) rfl rfl rfl H rfl ?_
                refine WG_skip (i := 15) (listed' := [true, true, true, true, true, true, true, true, true, true, true, true, true, true, true, true, false, false, false, false, false, false, false, false, false, false, false, false, false, false, false, false, false, false, false, false, false, false]) rfl (by kernel_rfl) rfl rfl rfl H rfl ?_
                refine WG_skip (i := 16) (listed' := [true, true, true, true, true, true, true, true, true, true, true, true, true, true, true, true, true, false, false, false, false, false, false, false, false, false, false, false, false, false, false, false, false, false, false, false, false, false]) rfl (by kernel_rfl) rfl rfl rfl H rfl ?_
                refine WG_skip (i := 17) (listed' := [true, true, true, true, true, true, true, true, true, true, true, true, true, true, true, true, true, true, false, false, false, false, false, false, false, false, false, false, false, false, false, false, false, false, false, false, false, false]) rfl (by kernel_rfl) rfl rfl rfl H rfl ?_
                refine WG_skip (i := 18) (listed' := [true, true, true, true, true, true, true, true, true, true, true, true, true, true, true, true, true, true, true, false, false, false, false, false, false, false, false, false, false, false, false, false, false, false, false, false, false, false]) rfl (by kernel_rfl) rfl rfl rfl H rfl ?_
                refine WG_takeG (i := 19) (listed' := [true, true, true, true, true, true, true, true, true, true, true, true, true, true, true, true, true, true, true, true, false, false, false, false, false, false, false, false, false, false, false, false, false, false, false, false, false, false]) rfl (by kernel_rfl) rfl rfl rfl (fun w H => x_pick (v := .bool _) rfl rfl) H rfl ?_
                refine WG_take (i := 20) (listed' := [true, true, true, true, true, true, true, true, true, true, true, true, true, true, true, true, true, true, true, true, true, false, false, false, false, false, false, false, false, false, false, false, false, false, false, false, false, false]) rfl (by kernel_rfl) (fun w H => x_pick (v := .bool _) rfl rfl) H rfl ?_
                refine WG_take (i := 21) (listed' := [true, true, true, true, true, true, true, true, true, true, true, true, true, true, true, true, true, true, true, true, true, true, false, false, false, false, false, false, false, false, false, false, false, false, false, false, false, false]) rfl (by kernel_rfl) (fun w H => x_move (v := .bool _) rfl) H rfl ?_
                refine WG_takeG (i := 22) (listed' := [true, true, true, true, true, true, true, true, true, true, true, true, true, true, true, true, true, true, true, true, true, true, true, false, false, false, false, false, false, false, false, false, false, false, false, false, false, false]) rfl (by kernel_rfl) rfl rfl rfl (fun w H => x_move (v := .int .i64 _) rfl) H rfl ?_
                refine WG_takeG (i := 23) (listed' := [true, true, true, true, true, true, true, true, true, true, true, true, true, true, true, true, true, true, true, true, true, true, true, true, false, false, false, false, false, false, false, false, false, false, false, false, false, false]) rfl (by kernel_rfl) rfl rfl rfl (fun w H => x_move (v := .int .i64 _) rfl) H rfl ?_
                refine WG_takeG (i := 24) (listed' := [true, true, true, true, true, true, true, true, true, true, true, true, true, true, true, true, true, true, true, true, true, true, true, true, true, false, false, false, false, false, false, false, false, false, false, false, false, false]) rfl (by kernel_rfl) rfl rfl rfl (fun w H => x_binop rfl rfl (r_eql _ _ _ _)) H rfl ?_
                refine WG_takeG (i := 25) (listed' := [true, true, true, true, true, true, true, true, true, true, true, true, true, true, true, true, true, true, true, true, true, true, true, true, true, true, false, false, false, false, false, false, false, false, false, false, false, false]) rfl (by kernel_rfl) rfl rfl rfl (fun w H => x_move (v := .bool _) rfl) H rfl ?_
                first | refine WG_cased (t := 87) rfl (fun h87 => ?_) (fun h87 => ?_) | refine WG_casen (t := 87) rfl (fun h87 => ?_) (fun h87 => ?_) | refine WG_case (t := 87) rfl (fun h87 => ?_) (fun h87 => ?_)
                · refine WG_takeG (i := 26) (listed' := [true, true, true, true, true, true, true, true, true, true, true, true, true, true, true, true, true, true, true, true, true, true, true, true, true, true, true, false, false, false, false, false, false, false, false, false, false, false]) rfl (by kernel_rfl) rfl rfl rfl (fun w H => x_move (v := .int .i64 _) rfl) H rfl ?_
                  refine WG_takeG (i := 27) (listed' := [true, true, true, true, true, true, true, true, true, true, true, true, true, true, true, true, true, true, true, true, true, true, true, true, true, true, true, true, false, false, false, false, false, false, false, false, false, false]) rfl (by kernel_rfl) rfl rfl rfl (fun w H => x_binop rfl rfl (r_eql _ _ _ _)) H rfl ?_
                  refine WG_takeG (i := 28) (listed' := [true, true, true, true, true, true, true, true, true, true, true, true, true, true, true, true, true, true, true, true, true, true, true, true, true, true, true, true, true, false, false, false, false, false, false, false, false, false]) rfl (by kernel_rfl) rfl rfl rfl (fun w H => x_pick (v := .bool _) rfl rfl) H rfl ?_
                  refine WG_takeG (i := 29) (listed' := [true, true, true, true, true, true, true, true, true, true, true, true, true, true, true, true, true, true, true, true, true, true, true, true, true, true, true, true, true, true, false, false, false, false, false, false, false, false]) rfl (by kernel_rfl) rfl rfl rfl (fun w H => x_move (v := .bool _) rfl) H rfl ?_
                  first | refine WG_cased (t := 91) rfl (fun h91 => ?_) (fun h91 => ?_) | refine WG_casen (t := 91) rfl (fun h91 => ?_) (fun h91 => ?_) | refine WG_case (t := 91) rfl (fun h91 => ?_) (fun h91 => ?_)
                  · refine WG_takeG (i := 30) (listed' := [true, true, true, true, true, true, true, true, true, true, true, true, true, true, true, true, true, true, true, true, true, true, true, true, true, true, true, true, true, true, true, false, false, false, false, false, false, false]) rfl (by kernel_rfl) rfl rfl rfl (fun w H => x_move (v := .slice _ _ _) rfl) H rfl ?_
                    refine WG_takeG (i := 31) (listed' := [true, true, true, true, true, true, true, true, true, true, true, true, true, true, true, true, true, true, true, true, true, true, true, true, true, true, true, true, true, true, true, true, false, false, false, false, false, false]) rfl (by kernel_rfl) rfl rfl rfl (fun w H => x_move (v := .int .i64 _) rfl) H rfl ?_
                    refine WG_takeG (i := 32) (listed' := [true, true, true, true, true, true, true, true, true, true, true, true, true, true, true, true, true, true, true, true, true, true, true, true, true, true, true, true, true, true, true, true, true, false, false, false, false, false]) rfl (by kernel_rfl) rfl rfl rfl (fun w H => x_indexAddr (s := 1) Try.underlying33 (by kernel_rfl) rfl rfl (by omega) (by omega) (by first | rfl | assumption | exact H.rsomen .zero (by omega) | exact H.rsomen (.succ .zero) (by omega) | exact H.rsomen (.succ (.succ .zero)) (by omega) | exact H.osomen .zero (by omega) | exact H.osomen (.succ .zero) (by omega) | exact H.osomen (.succ (.succ .zero)) (by omega)) rfl) H rfl ?_
                    first | refine WG_takeG (i := 33) (listed' := [true, true, true, true, true, true, true, true, true, true, true, true, true, true, true, true, true, true, true, true, true, true, true, true, true, true, true, true, true, true, true, true, true, true, false, false, false, false]) rfl (by kernel_rfl) rfl rfl rfl (fun w H => x_load (v := .int .u32 _) Try.underlying22 rfl rfl (H.cellAt .zero rfl)) H rfl ?_ | refine WG_takeG (i := 33) (listed' := [true, true, true, true, true, true, true, true, true, true, true, true, true, true, true, true, true, true, true, true, true, true, true, true, true, true, true, true, true, true, true, true, true, true, false, false, false, false]) rfl (by kernel_rfl) rfl rfl rfl (fun w H => x_load (v := .int .u32 _) Try.underlying22 rfl rfl (H.cellAt (.succ .zero) rfl)) H rfl ?_ | refine WG_takeG (i := 33) (listed' := [true, true, true, true, true, true, true, true, true, true, true, true, true, true, true, true, true, true, true, true, true, true, true, true, true, true, true, true, true, true, true, true, true, true, false, false, false, false]) rfl (by kernel_rfl) rfl rfl rfl (fun w H => x_load (v := .int .u32 _) Try.underlying22 rfl rfl (H.cellAt (.succ (.succ .zero)) rfl)) H rfl ?_ | refine WG_takeG (i := 33) (listed' := [true, true, true, true, true, true, true, true, true, true, true, true, true, true, true, true, true, true, true, true, true, true, true, true, true, true, true, true, true, true, true, true, true, true, false, false, false, false]) rfl (by kernel_rfl) rfl rfl rfl (fun w H => x_load (v := .int .u32 _) Try.underlying22 rfl rfl (H.cellAt (.succ (.succ (.succ .zero))) rfl)) H rfl ?_ | refine WG_takeG (i := 33) (listed' := [true, true, true, true, true, true, true, true, true, true, true, true, true, true, true, true, true, true, true, true, true, true, true, true, true, true, true, true, true, true, true, true, true, true, false, false, false, false]) rfl (by kernel_rfl) rfl rfl rfl (fun w H => x_load (v := .int .u32 _) Try.underlying22 rfl rfl (H.cellAt (.succ (.succ (.succ (.succ .zero)))) rfl)) H rfl ?_ | refine WG_takeG (i := 33) (listed' := [true, true, true, true, true, true, true, true, true, true, true, true, true, true, true, true, true, true, true, true, true, true, true, true, true, true, true, true, true, true, true, true, true, true, false, false, false, false]) rfl (by kernel_rfl) rfl rfl rfl (fun w H => x_load (v := .int .u32 _) Try.underlying22 rfl rfl (H.cellAt (.succ (.succ (.succ (.succ (.succ .zero))))) rfl)) H rfl ?_ | refine WG_takeG (i := 33) (listed' := [true, true, true, true, true, true, true, true, true, true, true, true, true, true, true, true, true, true, true, true, true, true, true, true, true, true, true, true, true, true, true, true, true, true, false, false, false, false]) rfl (by kernel_rfl) rfl rfl rfl (fun w H => x_load Try.underlying22 rfl rfl (H.rnum .zero (by omega) (by omega))) H rfl ?_ | refine WG_takeG (i := 33) (listed' := [true, true, true, true, true, true, true, true, true, true, true, true, true, true, true, true, true, true, true, true, true, true, true, true, true, true, true, true, true, true, true, true, true, true, false, false, false, false]) rfl (by kernel_rfl) rfl rfl rfl (fun w H => x_load Try.underlying22 rfl rfl (H.rnum (.succ .zero) (by omega) (by omega))) H rfl ?_ | refine WG_takeG (i := 33) (listed' := [true, true, true, true, true, true, true, true, true, true, true, true, true, true, true, true, true, true, true, true, true, true, true, true, true, true, true, true, true, true, true, true, true, true, false, false, false, false]) rfl (by kernel_rfl) rfl rfl rfl (fun w H => x_load Try.underlying22 rfl rfl (H.rnum (.succ (.succ .zero)) (by omega) (by omega))) H rfl ?_ | refine WG_takeG (i := 33) (listed' := [true, true, true, true, true, true, true, true, true, true, true, true, true, true, true, true, true, true, true, true, true, true, true, true, true, true, true, true, true, true, true, true, true, true, false, false, false, false]) rfl (by kernel_rfl) rfl rfl rfl (fun w H => x_load Try.underlying22 rfl rfl (H.onum .zero (by omega) (by omega))) H rfl ?_ | refine WG_takeG (i := 33) (listed' := [true, true, true, true, true, true, true, true, true, true, true, true, true, true, true, true, true, true, true, true, true, true, true, true, true, true, true, true, true, true, true, true, true, true, false, false, false, false]) rfl (by kernel_rfl) rfl rfl rfl (fun w H => x_load Try.underlying22 rfl rfl (H.onum (.succ .zero) (by omega) (by omega))) H rfl ?_ | refine WG_takeG (i := 33) (listed' := [true, true, true, true, true, true, true, true, true, true, true, true, true, true, true, true, true, true, true, true, true, true, true, true, true, true, true, true, true, true, true, true, true, true, false, false, false, false]) rfl (by kernel_rfl) rfl rfl rfl (fun w H => x_load Try.underlying22 rfl rfl (H.onum (.succ (.succ .zero)) (by omega) (by omega))) H rfl ?_
                    refine WG_takeG (i := 34) (listed' := [true, true, true, true, true, true, true, true, true, true, true, true, true, true, true, true, true, true, true, true, true, true, true, true, true, true, true, true, true, true, true, true, true, true, true, false, false, false]) rfl (by kernel_rfl) rfl rfl rfl (fun w H => x_move (v := .int .u32 _) rfl) H rfl ?_
                    refine WG_takeG (i := 35) (listed' := [true, true, true, true, true, true, true, true, true, true, true, true, true, true, true, true, true, true, true, true, true, true, true, true, true, true, true, true, true, true, true, true, true, true, true, true, false, false]) rfl (by kernel_rfl) rfl rfl rfl (fun w H => x_binop rfl rfl (r_neq _ _ _ _)) H rfl ?_
                    refine WG_takeG (i := 36) (listed' := [true, true, true, true, true, true, true, true, true, true, true, true, true, true, true, true, true, true, true, true, true, true, true, true, true, true, true, true, true, true, true, true, true, true, true, true, true, false]) rfl (by kernel_rfl) rfl rfl rfl (fun w H => x_pick (v := .bool _) rfl rfl) H rfl ?_
                    refine WG_take (i := 37) (listed' := [true, true, true, true, true, true, true, true, true, true, true, true, true, true, true, true, true, true, true, true, true, true, true, true, true, true, true, true, true, true, true, true, true, true, true, true, true, true]) rfl (by kernel_rfl) (fun w H => x_pick (v := .bool _) rfl rfl) H rfl ?_
                    refine WG_done (by kernel_rfl) ?_
                    refine thenE_normal ?_
                    refine WC_ifd rfl (fun h99 => ?_) (fun h99 => ?_)
                    · exact absurd (by rw [hxk, if_pos ⟨h91, h87⟩]) h99
                    · refine WC_skip ?_
                      refine inBlockE_normal ?_
                      refine thenE_normal ?_
                      refine WC_region ?_
                      refine WL_x (x_binop rfl rfl (r_add_in (i64_in (by omega) (by omega)))) ?_
                      refine WL_x (x_move (v := .int .i64 _) rfl) ?_
                      refine WL_nil ?_
                      refine thenE_normal ?_
                      exact ⟨k + 1, ⟨by omega, by simp [upd], rfl, rfl, rfl, rfl, rfl, rfl, rfl, rfl, rfl, H⟩, by omega⟩
                  · refine WG_skip (i := 30) (listed' := [true, true, true, true, true, true, true, true, true, true, true, true, true, true, true, true, true, true, true, true, true, true, true, true, true, true, true, true, true, true, true, false, false, false, false, false, false, false]) rfl (by kernel_rfl) rfl rfl rfl H rfl ?_
                    refine WG_skip (i := 31) (listed' := [true, true, true, true, true, true, true, true, true, true, true, true, true, true, true, true, true, true, true, true, true, true, true, true, true, true, true, true, true, true, true, true, false, false, false, false, false, false]) rfl (by kernel_rfl) rfl rfl rfl H rfl ?_
                    refine WG_skip (i := 32) (listed' := [true, true, true, true, true, true, true, true, true, true, true, true, true, true, true, true, true, true, true, true, true, true, true, true, true, true, true, true, true, true, true, true, true, false, false, false, false, false]) rfl (by kernel_rfl) rfl rfl rfl H rfl ?_
                    refine WG_skip (i := 33) (listed' := [true, true, true, true, true, true, true, true, true, true, true, true, true, true, true, true, true, true, true, true, true, true, true, true, true, true, true, true, true, true, true, true, true, true, false, false, false, false]) rfl (by kernel_rfl) rfl rfl rfl H rfl ?_
                    refine WG_skip (i := 34) (listed' := [true, true, true, true, true, true, true, true, true, true, true, true, true, true, true, true, true, true, true, true, true, true, true, true, true, true, true, true, true, true, true, true, true, true, true, false, false, false]) rfl (by kernel_rfl) rfl rfl rfl H rfl ?_
                    refine WG_skip (i := 35) (listed' := [true, true, true, true, true, true, true, true, true, true, true, true, true, true, true, true, true, true, true, true, true, true, true, true, true, true, true, true, true, true, true, true, true, true, true, true, false, false]) rfl (by kernel_rfl) rfl rfl rfl H rfl ?_
                    refine WG_takeG (i := 36) (listed' := [true, true, true, true, true, true, true, true, true, true, true, true, true, true, true, true, true, true, true, true, true, true, true, true, true, true, true, true, true, true, true, true, true, true, true, true, true, false]) rfl (by kernel_rfl) rfl rfl rfl (fun w H => x_pick (v := .bool _) rfl rfl) H rfl ?_
                    refine WG_take (i := 37) (listed' := [true, true, true, true, true, true, true, true, true, true, true, true, true, true, true, true, true, true, true, true, true, true, true, true, true, true, true, true, true, true, true, true, true, true, true, true, true, true]) rfl (by kernel_rfl) (fun w H => x_pick (v := .bool _) rfl rfl) H rfl ?_
                    refine WG_done (by kernel_rfl) ?_
                    refine thenE_normal ?_
                    refine WC_no rfl ?_
                    refine WC_skip ?_
                    refine inBlockE_normal ?_
                    refine thenE_normal ?_
                    refine WC_region ?_
                    refine WL_x (x_binop rfl rfl (r_add_in (i64_in (by omega) (by omega)))) ?_
                    refine WL_x (x_move (v := .int .i64 _) rfl) ?_
                    refine WL_nil ?_
                    refine thenE_normal ?_
                    exact ⟨k + 1, ⟨by omega, by simp [upd], rfl, rfl, rfl, rfl, rfl, rfl, rfl, rfl, rfl, H⟩, by omega⟩
                · refine WG_skip (i := 26) (listed' := [true, true, true, true, true, true, true, true, true, true, true, true, true, true, true, true, true, true, true, true, true, true, true, true, true, true, true, false, false, false, false, false, false, false, false, false, false, false]) rfl (by kernel_rfl) rfl rfl rfl H rfl ?_
                  refine WG_skip (i := 27) (listed' := [true, true, true, true, true, true, true, true, true, true, true, true, true, true, true, true, true, true, true, true, true, true, true, true, true, true, true, true, false, false, false, false, false, false, false, false, false, false]) rfl (by kernel_rfl) rfl rfl rfl H rfl ?_
                  refine WG_takeG (i := 28) (listed' := [true, true, true, true, true, true, true, true, true, true, true, true, true, true, true, true, true, true, true, true, true, true, true, true, true, true, true, true, true, false, false, false, false, false, false, false, false, false]) rfl (by kernel_rfl) rfl rfl rfl (fun w H => x_pick (v := .bool _) rfl rfl) H rfl ?_
                  refine WG_takeG (i := 29) (listed' := [true, true, true, true, true, true, true, true, true, true, true, true, true, true, true, true, true, true, true, true, true, true, true, true, true, true, true, true, true, true, false, false, false, false, false, false, false, false]) rfl (by kernel_rfl) rfl rfl rfl (fun w H => x_move (v := .bool _) rfl) H rfl ?_
                  refine WG_skip (i := 30) (listed' := [true, true, true, true, true, true, true, true, true, true, true, true, true, true, true, true, true, true, true, true, true, true, true, true, true, true, true, true, true, true, true, false, false, false, false, false, false, false]) rfl (by kernel_rfl) rfl rfl rfl H rfl ?_
                  refine WG_skip (i := 31) (listed' := [true, true, true, true, true, true, true, true, true, true, true, true, true, true, true, true, true, true, true, true, true, true, true, true, true, true, true, true, true, true, true, true, false, false, false, false, false, false]) rfl (by kernel_rfl) rfl rfl rfl H rfl ?_
                  refine WG_skip (i := 32) (listed' := [true, true, true, true, true, true, true, true, true, true, true, true, true, true, true, true, true, true, true, true, true, true, true, true, true, true, true, true, true, true, true, true, true, false, false, false, false, false]) rfl (by kernel_rfl) rfl rfl rfl H rfl ?_
                  refine WG_skip (i := 33) (listed' := [true, true, true, true, true, true, true, true, true, true, true, true, true, true, true, true, true, true, true, true, true, true, true, true, true, true, true, true, true, true, true, true, true, true, false, false, false, false]) rfl (by kernel_rfl) rfl rfl rfl H rfl ?_
                  refine WG_skip (i := 34) (listed' := [true, true, true, true, true, true, true, true, true, true, true, true, true, true, true, true, true, true, true, true, true, true, true, true, true, true, true, true, true, true, true, true, true, true, true, false, false, false]) rfl (by kernel_rfl) rfl rfl rfl H rfl ?_
                  refine WG_skip (i := 35) (listed' := [true, true, true, true, true, true, true, true, true, true, true, true, true, true, true, true, true, true, true, true, true, true, true, true, true, true, true, true, true, true, true, true, true, true, true, true, false, false]) rfl (by kernel_rfl) rfl rfl rfl H rfl ?_
                  refine WG_takeG (i := 36) (listed' := [true, true, true, true, true, true, true, true, true, true, true, true, true, true, true, true, true, true, true, true, true, true, true, true, true, true, true, true, true, true, true, true, true, true, true, true, true, false]) rfl (by kernel_rfl) rfl rfl rfl (fun w H => x_pick (v := .bool _) rfl rfl) H rfl ?_
                  refine WG_take (i := 37) (listed' := [true, true, true, true, true, true, true, true, true, true, true, true, true, true, true, true, true, true, true, true, true, true, true, true, true, true, true, true, true, true, true, true, true, true, true, true, true, true]) rfl (by kernel_rfl) (fun w H => x_pick (v := .bool _) rfl rfl) H rfl ?_
                  refine WG_done (by kernel_rfl) ?_
                  refine thenE_normal ?_
                  refine WC_no rfl ?_
                  refine WC_skip ?_
                  refine inBlockE_normal ?_
                  refine thenE_normal ?_
                  refine WC_region ?_
                  refine WL_x (x_binop rfl rfl (r_add_in (i64_in (by omega) (by omega)))) ?_
                  refine WL_x (x_move (v := .int .i64 _) rfl) ?_
                  refine WL_nil ?_
                  refine thenE_normal ?_
                  exact ⟨k + 1, ⟨by omega, by simp [upd], rfl, rfl, rfl, rfl, rfl, rfl, rfl, rfl, rfl, H⟩, by omega⟩
          · refine WC_exit ?_
            refine thenE_exit ?_
            refine thenE_exit ?_
            refine inBlockE_exit ?_
            refine thenE_normal ?_
            refine WC_seq ?_
            refine WC_region ?_
            refine WL_x (x_move (v := .slice _ _ _) rfl) ?_
            refine WL_x (x_len Try.underlying33 rfl) ?_
            refine WL_x (x_fieldAddr (n := 0) (o' := 1) Try.underlying26 rfl (by kernel_rfl) rfl rfl) ?_
            first | refine WL_x (x_load (v := .int .i64 _) Try.underlying3 rfl rfl (H.cellAt .zero rfl)) ?_ | refine WL_x (x_load (v := .int .i64 _) Try.underlying3 rfl rfl (H.cellAt (.succ .zero) rfl)) ?_ | refine WL_x (x_load (v := .int .i64 _) Try.underlying3 rfl rfl (H.cellAt (.succ (.succ .zero)) rfl)) ?_ | refine WL_x (x_load (v := .int .i64 _) Try.underlying3 rfl rfl (H.cellAt (.succ (.succ (.succ .zero))) rfl)) ?_ | refine WL_x (x_load (v := .int .i64 _) Try.underlying3 rfl rfl (H.cellAt (.succ (.succ (.succ (.succ .zero)))) rfl)) ?_ | refine WL_x (x_load (v := .int .i64 _) Try.underlying3 rfl rfl (H.cellAt (.succ (.succ (.succ (.succ (.succ .zero))))) rfl)) ?_ | refine WL_x (x_load Try.underlying3 rfl rfl (H.rnum .zero (by omega) (by omega))) ?_ | refine WL_x (x_load Try.underlying3 rfl rfl (H.rnum (.succ .zero) (by omega) (by omega))) ?_ | refine WL_x (x_load Try.underlying3 rfl rfl (H.rnum (.succ (.succ .zero)) (by omega) (by omega))) ?_ | refine WL_x (x_load Try.underlying3 rfl rfl (H.onum .zero (by omega) (by omega))) ?_ | refine WL_x (x_load Try.underlying3 rfl rfl (H.onum (.succ .zero) (by omega) (by omega))) ?_ | refine WL_x (x_load Try.underlying3 rfl rfl (H.onum (.succ (.succ .zero)) (by omega) (by omega))) ?_
            refine WL_x (x_binop rfl rfl (r_eql _ _ _ _)) ?_
            refine WL_x (x_move (v := .bool _) rfl) ?_
            first | refine WL_cased (t := 106) rfl (fun h106 => ?_) (fun h106 => ?_) | refine WL_casen (t := 106) rfl (fun h106 => ?_) (fun h106 => ?_) | refine WL_case (t := 106) rfl (fun h106 => ?_) (fun h106 => ?_)
            · refine WL_guard_yes rfl rfl rfl ?_
              refine WL_x (x_move (v := .slice _ _ _) rfl) ?_
              refine WL_guard_yes rfl rfl rfl ?_
              refine WL_x (x_len Try.underlying33 rfl) ?_
              refine WL_guard_yes rfl rfl rfl ?_
              refine WL_x (x_fieldAddr (n := 0) (o' := 1) Try.underlying26 rfl (by kernel_rfl) rfl rfl) ?_
              refine WL_guard_yes rfl rfl rfl ?_
              first | refine WL_x (x_load (v := .int .i64 _) Try.underlying3 rfl rfl (H.cellAt .zero rfl)) ?_ | refine WL_x (x_load (v := .int .i64 _) Try.underlying3 rfl rfl (H.cellAt (.succ .zero) rfl)) ?_ | refine WL_x (x_load (v := .int .i64 _) Try.underlying3 rfl rfl (H.cellAt (.succ (.succ .zero)) rfl)) ?_ | refine WL_x (x_load (v := .int .i64 _) Try.underlying3 rfl rfl (H.cellAt (.succ (.succ (.succ .zero))) rfl)) ?_ | refine WL_x (x_load (v := .int .i64 _) Try.underlying3 rfl rfl (H.cellAt (.succ (.succ (.succ (.succ .zero)))) rfl)) ?_ | refine WL_x (x_load (v := .int .i64 _) Try.underlying3 rfl rfl (H.cellAt (.succ (.succ (.succ (.succ (.succ .zero))))) rfl)) ?_ | refine WL_x (x_load Try.underlying3 rfl rfl (H.rnum .zero (by omega) (by omega))) ?_ | refine WL_x (x_load Try.underlying3 rfl rfl (H.rnum (.succ .zero) (by omega) (by omega))) ?_ | refine WL_x (x_load Try.underlying3 rfl rfl (H.rnum (.succ (.succ .zero)) (by omega) (by omega))) ?_ | refine WL_x (x_load Try.underlying3 rfl rfl (H.onum .zero (by omega) (by omega))) ?_ | refine WL_x (x_load Try.underlying3 rfl rfl (H.onum (.succ .zero) (by omega) (by omega))) ?_ | refine WL_x (x_load Try.underlying3 rfl rfl (H.onum (.succ (.succ .zero)) (by omega) (by omega))) ?_
              refine WL_guard_yes rfl rfl rfl ?_
              refine WL_x (x_binop rfl rfl (r_eql _ _ _ _)) ?_
              refine WL_x (x_pick (v := .bool _) rfl rfl) ?_
              refine WL_x (x_move (v := .bool _) rfl) ?_
              first | refine WL_cased (t := 113) rfl (fun h113 => ?_) (fun h113 => ?_) | refine WL_casen (t := 113) rfl (fun h113 => ?_) (fun h113 => ?_) | refine WL_case (t := 113) rfl (fun h113 => ?_) (fun h113 => ?_)
              · refine WL_guard_yes rfl rfl rfl ?_
                refine WL_x (x_move (v := .pointer _) rfl) ?_
                refine WL_guard_yes rfl rfl rfl ?_
                refine WL_call (vs := [.pointer _]) Try.func16 rfl rfl rfl (tick_ok _ d b _ (H.ok _ (Has.mem (.succ (.succ (.succ .zero))))) hI4) ?_
                rintro _ w ⟨rfl, hf, hok⟩
                refine ⟨_, rfl, ?_⟩
                replace H := H.turn (.succ (.succ (.succ .zero))) hf (fun _ h => .inl h) hok (fun _ h => .inl h)
                refine WL_guard_yes rfl rfl rfl ?_
                refine WL_x (x_move (v := .pointer _) rfl) ?_
                refine WL_guard_yes rfl rfl rfl ?_
                refine WL_call (vs := [.pointer _]) Try.func16 rfl rfl rfl (tick_ok _ d2 b2 _ (H.ok _ (Has.mem (.succ (.succ .zero)))) hI3) ?_
                rintro _ w ⟨rfl, hf, hok⟩
                refine ⟨_, rfl, ?_⟩
                replace H := H.turn (.succ (.succ .zero)) hf (fun _ h => .inl h) hok (fun _ h => .inl h)
                refine WL_guard_yes rfl rfl rfl ?_
                refine WL_x (x_binop rfl rfl (r_eql _ _ _ _)) ?_
                refine WL_x (x_pick (v := .bool _) rfl rfl) ?_
                refine WL_x (x_assign (v := .bool _) rfl) ?_
                refine WL_nil ?_
                refine thenE_normal ?_
                refine WC_ret ?_
                refine ends1 (v := .bool _) Try.results3 rfl ?_
                first
                  | exact ⟨rfl, H.fr⟩
                  | exact ⟨by rw [htk]; simp, H.fr⟩
              · exact absurd (by omega) h113
            · exact absurd (by omega) h106
end Go.Proofs.Ytecdgmdkepiopaa
