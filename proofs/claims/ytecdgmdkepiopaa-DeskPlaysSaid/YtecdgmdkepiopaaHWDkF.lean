import Derived.Test.YtecdgmdkepiopaaHWDkW
set_option linter.unusedSimpArgs false
set_option linter.unusedVariables false
set_option linter.unusedSectionVars false
namespace Go.Proofs.Ytecdgmdkepiopaa
open Go Go.HW Go.RowKit
attribute [local irreducible] WL WC WG wpList Code.wp

/-- a game of few words -/
def gsmall (pl m : Int) : Gm := ⟨pl, pl, m, 0, [], []⟩
theorem gsmall_ok (pl m : Int) (h : 1 ≤ pl ∧ pl ≤ 6) (hm : 1 ≤ m ∧ m ≤ 256) : (gsmall pl m).ok := ⟨by simp only [gsmall]; omega, by simp only [gsmall]; omega, by simp only [gsmall]; omega, by simp only [gsmall]; omega, by simp only [gsmall]; omega, by simp only [gsmall]; omega, by simp [gsmall], by simp [gsmall], by simp [gsmall], by simp [gsmall], by simp [gsmall]⟩
theorem gsmall_right (pl m : Int) (h : 1 ≤ pl ∧ pl ≤ 6) (hm : 1 ≤ m) : gameRight (gsmall pl m) = true := by
  have e : min 6 pl = pl := by omega
  simp [gameRight, gsmall, checkB, e]
  exact ⟨⟨decide_eq_true (by omega), decide_eq_true (by omega)⟩, decide_eq_true (by omega), decide_eq_true (by omega)⟩
/-- a desk with one move at most -/
def oneD (pl m p t a k : Int) : Dk := ⟨pl, m, 0, k, fun q => if q = (p, t) ∧ k < t then some a else none⟩
theorem oneD_ok (pl m p t a k : Int) (h : 1 ≤ pl ∧ pl ≤ 6) (hm : 1 ≤ m ∧ m ≤ 256) (hk : 0 ≤ k ∧ k ≤ 8) : (oneD pl m p t a k).ok := ⟨by simp only [oneD]; omega, by simp only [oneD]; omega, by simp only [oneD]; omega, by simp only [oneD]; omega, by simp [oneD], by simp [oneD], by simp only [oneD]; omega, by simp only [oneD]; omega⟩
theorem oneD_inv (pl m p t a k : Int) (ht : t ≤ k + 8) : (oneD pl m p t a k).inv := ⟨fun q u v h => by
  simp only [oneD] at h
  split at h
  · rename_i hh
    obtain ⟨e, h2⟩ := hh
    obtain ⟨rfl, rfl⟩ := Prod.mk.inj e
    simp only [oneD]; omega
  · cases h⟩
theorem newD_small (pl m : Int) (h : 1 ≤ pl ∧ pl ≤ 6) (hm : 1 ≤ m) : newD (gsmall pl m) = ⟨pl, m, 0, 0, fun _ => none⟩ := by
  unfold newD; rw [if_pos (gsmall_right pl m h hm)]; rfl
theorem one_put {pl m p t a : Int} (h : 0 ≤ p ∧ p < pl) (ha : a < m) (ht : 1 ≤ t ∧ t ≤ 8) : putE ⟨pl, m, 0, 0, fun _ => none⟩ p t a = 0 ∧ putD ⟨pl, m, 0, 0, fun _ => none⟩ p t a = oneD pl m p t a 0 := by
  have e : putE ⟨pl, m, 0, 0, fun _ => none⟩ p t a = 0 := by unfold putE; rw [if_neg (by simp only; omega), if_neg (by simp only; omega), if_neg (by simp only; omega), if_neg (by simp only; omega), if_neg (by simp)]
  refine ⟨e, ?_⟩
  unfold putD
  rw [if_pos e]
  simp only [oneD, Dk.mk.injEq, true_and]
  funext q
  simp only [mset]
  by_cases hq : q = (p, t)
  · rw [if_pos hq, if_pos ⟨hq, by omega⟩]
  · rw [if_neg hq, if_neg (fun hh => hq hh.1)]
theorem one_again {pl m p t a b : Int} (h : 0 ≤ p ∧ p < pl) (hb : b < m) (ht : 1 ≤ t ∧ t ≤ 8) : putE (oneD pl m p t a 0) p t b = 12 := by
  unfold putE
  rw [if_neg (by simp only [oneD]; omega), if_neg (by simp only [oneD]; omega), if_neg (by simp only [oneD]; omega), if_neg (by simp only [oneD]; omega), if_pos (by simp only [oneD]; rw [if_pos ⟨trivial, by omega⟩]; rfl)]
theorem one_late {pl m p t a b : Int} (h : 0 ≤ p ∧ p < pl) (hb : b < m) : putE (oneD pl m p t a t) p t b = 11 := by
  unfold putE
  rw [if_neg (by simp only [oneD]; omega), if_neg (by simp only [oneD]; omega), if_pos (by simp [oneD])]
theorem one_nextT {pl m p t a k : Int} (hk : 0 ≤ k ∧ k ≤ 8) : nextT (oneD pl m p t a k) = k + 1 := by
  unfold nextT; simp only [oneD]; rw [IntKind.wrap_u32]; omega
theorem one_take {pl m p t a k : Int} (hk : 0 ≤ k ∧ k ≤ 8) (hp : 0 ≤ p ∧ p < pl) : takeD (oneD pl m p t a k) = oneD pl m p t a (k + 1) := by
  unfold takeD takeM
  rw [one_nextT hk]
  simp only [oneD, Dk.mk.injEq, true_and]
  funext ⟨q, u⟩
  simp only [Prod.mk.injEq]
  by_cases h1 : q = p ∧ u = t
  · obtain ⟨rfl, rfl⟩ := h1
    by_cases h2 : u = k + 1
    · rw [if_pos (by omega), if_neg (by omega)]
    · rw [if_neg (by omega)]
      by_cases h3 : k < u
      · rw [if_pos ⟨⟨rfl, rfl⟩, h3⟩, if_pos ⟨⟨rfl, rfl⟩, by omega⟩]
      · rw [if_neg (fun hh => h3 hh.2), if_neg (by omega)]
  · rw [if_neg (c := (q = p ∧ u = t) ∧ k < t) (fun hh => h1 hh.1), if_neg (c := (q = p ∧ u = t) ∧ k + 1 < t) (fun hh => h1 hh.1)]
    split <;> rfl
theorem one_nth {pl m p t a k : Int} (hk : 0 ≤ k ∧ k ≤ 8) (i : Nat) (hi : i < pl.toNat) : nth (takeL (oneD pl m p t a k)) (i : Nat) = if (i : Int) = p ∧ k + 1 = t then a else 0 := by
  rw [takeL_nth _ _ (by simpa [oneD] using hi), one_nextT hk]
  simp only [oneD, Prod.mk.injEq]
  by_cases h1 : (i : Int) = p ∧ k + 1 = t
  · rw [if_pos ⟨h1, by omega⟩, if_pos h1]; rfl
  · rw [if_neg (fun hh => h1 hh.1), if_neg h1]; rfl

set_option maxHeartbeats 1000000 in
theorem first_ok (W : World) (moves players ahead a b : Int) (h0 : 0 ≤ moves ∧ moves ≤ 255) (h1 : 0 ≤ players ∧ players ≤ 255) (h2 : 0 ≤ ahead ∧ ahead ≤ 255) (h3 : 0 ≤ a ∧ a ≤ 4294967295) (h4 : 0 ≤ b ∧ b ≤ 4294967295) :
    Calls Try.prog 4 #[.int .u8 moves, .int .u8 players, .int .u8 ahead, .int .u32 a, .int .u32 b] W fun e w' => e = .returned (.bool true) ∧ Fr [] W w' := by
  have H : St W [] [] [] W := St.start [] (by simp)
  refine calls_enter (N := 106) Try.func4 rfl Try.ntmps4 rfl ?_
  refine WC_seq ?_
  refine WC_region ?_
  refine WL_x (x_assign (v := (.bool false)) rfl) ?_
  refine WL_nil ?_
  refine thenE_normal ?_
  refine WC_seq ?_
  refine WC_seq ?_
  refine WC_region ?_
  refine WL_call (vs := []) Try.func9 rfl rfl rfl (awake_ok _) ?_
  rintro _ w ⟨rfl, hf⟩
  refine ⟨_, rfl, ?_⟩
  replace H := H.quiet hf
  refine WL_x (x_not rfl) ?_
  refine WL_nil ?_
  refine thenE_normal ?_
  refine WC_no rfl ?_
  refine WC_skip ?_
  refine thenE_normal ?_
  refine WC_seq ?_
  refine WC_region ?_
  refine WL_x (x_move (v := .int .u8 _) rfl) ?_
  refine WL_x (x_binop rfl rfl (r_rem_nat (by omega) (by omega))) ?_
  refine WL_x (x_convert Try.underlying5 Try.underlying3 rfl (i64_in (by omega) (by omega))) ?_
  refine WL_x (x_binop rfl rfl (r_add_in (i64_in (by omega) (by omega)))) ?_
  refine WL_x (x_move (v := .int .u8 _) rfl) ?_
  refine WL_x (x_convert Try.underlying5 Try.underlying22 rfl (u32_in (by omega) (by omega))) ?_
  refine WL_x (x_binop rfl rfl (r_add_in (u32_in (by omega) (by omega)))) ?_
  refine WL_x (x_buildS (pl := [(0, 1), (1, 1), (2, 1), (3, 1), (4, 1), (5, 1)]) (zero := [(.int .i64 0), (.int .i64 0), (.int .u32 0), (.int .u32 0), (.slice none 0 0), (.slice none 0 0)]) (cells := [_, _, _, _, _, _]) (vs := [(1, .int .i64 _), (2, .int .u32 _)]) Try.underlying26 (by kernel_rfl) (by kernel_rfl) (by kernel_rfl) rfl rfl) ?_
  refine WL_alloc (l := [(.int .i64 0), (.int .i64 0), (.int .u32 0), (.int .u32 0), (.slice none 0 0), (.slice none 0 0)]) (by kernel_rfl) H ?_
  clear H; intro b11 w H
  first | refine WL_storeA rfl rfl rfl (by kernel_rfl) H .zero (Nat.le_of_ble_eq_true rfl) (splice_all _ _ rfl) ?_ | refine WL_storeA rfl rfl rfl (by kernel_rfl) H (.succ .zero) (Nat.le_of_ble_eq_true rfl) (splice_all _ _ rfl) ?_ | refine WL_storeA rfl rfl rfl (by kernel_rfl) H (.succ (.succ .zero)) (Nat.le_of_ble_eq_true rfl) (splice_all _ _ rfl) ?_ | refine WL_storeA rfl rfl rfl (by kernel_rfl) H (.succ (.succ (.succ .zero))) (Nat.le_of_ble_eq_true rfl) (splice_all _ _ rfl) ?_ | refine WL_storeA rfl rfl rfl (by kernel_rfl) H (.succ (.succ (.succ (.succ .zero)))) (Nat.le_of_ble_eq_true rfl) (splice_all _ _ rfl) ?_
  clear H; intro w H
  refine WL_nil ?_
  refine thenE_normal ?_
  refine WC_seq ?_
  refine WC_region ?_
  refine WL_x (x_fieldAddr (n := 0) (o' := 1) Try.underlying26 rfl (by kernel_rfl) rfl rfl) ?_
  first | refine WL_x (x_load (v := .int .i64 _) Try.underlying3 rfl rfl (H.cellAt .zero rfl)) ?_ | refine WL_x (x_load (v := .int .i64 _) Try.underlying3 rfl rfl (H.cellAt (.succ .zero) rfl)) ?_ | refine WL_x (x_load (v := .int .i64 _) Try.underlying3 rfl rfl (H.cellAt (.succ (.succ .zero)) rfl)) ?_ | refine WL_x (x_load (v := .int .i64 _) Try.underlying3 rfl rfl (H.cellAt (.succ (.succ (.succ .zero))) rfl)) ?_ | refine WL_x (x_load (v := .int .i64 _) Try.underlying3 rfl rfl (H.cellAt (.succ (.succ (.succ (.succ .zero)))) rfl)) ?_ | refine WL_x (x_load Try.underlying3 rfl rfl (H.rnum .zero (by omega) (by omega))) ?_ | refine WL_x (x_load Try.underlying3 rfl rfl (H.rnum (.succ .zero) (by omega) (by omega))) ?_ | refine WL_x (x_load Try.underlying3 rfl rfl (H.rnum (.succ (.succ .zero)) (by omega) (by omega))) ?_ | refine WL_x (x_load Try.underlying3 rfl rfl (H.onum .zero (by omega) (by omega))) ?_ | refine WL_x (x_load Try.underlying3 rfl rfl (H.onum (.succ .zero) (by omega) (by omega))) ?_ | refine WL_x (x_load Try.underlying3 rfl rfl (H.onum (.succ (.succ .zero)) (by omega) (by omega))) ?_
  refine WL_x (x_fieldAddr (n := 0) (o' := 0) Try.underlying26 rfl (by kernel_rfl) rfl rfl) ?_
  first | refine WL_store (v := .int .i64 _) Try.underlying3 rfl rfl rfl rfl (by kernel_rfl) H .zero (Nat.le_of_ble_eq_true rfl) rfl ?_ | refine WL_store (v := .int .i64 _) Try.underlying3 rfl rfl rfl rfl (by kernel_rfl) H (.succ .zero) (Nat.le_of_ble_eq_true rfl) rfl ?_ | refine WL_store (v := .int .i64 _) Try.underlying3 rfl rfl rfl rfl (by kernel_rfl) H (.succ (.succ .zero)) (Nat.le_of_ble_eq_true rfl) rfl ?_ | refine WL_store (v := .int .i64 _) Try.underlying3 rfl rfl rfl rfl (by kernel_rfl) H (.succ (.succ (.succ .zero))) (Nat.le_of_ble_eq_true rfl) rfl ?_ | refine WL_store (v := .int .i64 _) Try.underlying3 rfl rfl rfl rfl (by kernel_rfl) H (.succ (.succ (.succ (.succ .zero)))) (Nat.le_of_ble_eq_true rfl) rfl ?_
  clear H; intro w H
  try simp only [List.set_cons_succ, List.set_cons_zero] at H
  refine WL_nil ?_
  refine thenE_normal ?_
  refine WC_seq ?_
  obtain ⟨pl, hpl⟩ : ∃ pl : Int, pl = 1 + players % 6 := ⟨_, rfl⟩
  obtain ⟨m, hm⟩ : ∃ m : Int, m = 1 + moves := ⟨_, rfl⟩
  rw [← hpl, ← hm] at H
  have hp6 : 1 ≤ pl ∧ pl ≤ 6 := by omega
  have hm6 : 1 ≤ m ∧ m ≤ 256 := by omega
  replace H : St W [] [blk b11 ((gsmall pl m).val none 0 none 0) 26] [] _ := H
  refine WC_region ?_
  refine WL_x (x_loadA (n := 6) (vs := (gsmall pl m).val none 0 none 0) Try.underlying26 rfl (by kernel_rfl) rfl rfl (H.rangeAll .zero rfl rfl)) ?_
  refine WL_call (vs := [.agg (List.toArray _)]) Try.func12 rfl rfl rfl (new_ok _ (gsmall pl m) none none 0 0 (gsmall_ok pl m hp6 hm6) (Cells.nil _ _) (Cells.nil _ _)) ?_
  rintro _ w ⟨d, b0, rfl, hf, hok, hfr⟩
  rw [newD_small pl m hp6 hm6.1] at hok hfr
  refine ⟨_, rfl, ?_⟩
  replace H := H.new hf hok hfr
  refine WL_x (x_assign (v := .pointer _) rfl) ?_
  refine WL_nil ?_
  refine thenE_normal ?_
  refine WC_seq ?_
  have epl : (gsmall pl m).pl = pl := rfl
  have emv : (gsmall pl m).moves = m := rfl
  refine WC_region ?_
  refine WL_x (x_fieldAddr (n := 0) (o' := 1) Try.underlying26 rfl (by kernel_rfl) rfl rfl) ?_
  refine WL_x (x_load (v := .int .i64 _) Try.underlying3 rfl rfl (H.cellAt (l := (gsmall pl m).val none 0 none 0) (.succ .zero) rfl)) ?_
  refine WL_x (x_binop rfl rfl (r_sub_in (i64_in (by omega) (by omega)))) ?_
  refine WL_x (x_assign (v := .int .i64 _) rfl) ?_
  refine WL_nil ?_
  refine thenE_normal ?_
  refine WC_seq ?_
  refine WC_region ?_
  refine WL_x (x_move (v := .int .u8 _) rfl) ?_
  refine WL_x (x_binop rfl rfl (r_rem_nat (by omega) (by omega))) ?_
  refine WL_x (x_convert Try.underlying5 Try.underlying22 rfl (u32_in (by omega) (by omega))) ?_
  refine WL_x (x_binop rfl rfl (r_add_in (u32_in (by omega) (by omega)))) ?_
  refine WL_x (x_assign (v := .int .u32 _) rfl) ?_
  refine WL_nil ?_
  refine thenE_normal ?_
  refine WC_seq ?_
  obtain ⟨t, ht⟩ : ∃ t : Int, t = 1 + ahead % 8 := ⟨_, rfl⟩
  rw [← ht]
  have ht8 : 1 ≤ t ∧ t ≤ 8 := by omega
  have ha := Int.emod_nonneg a (show m ≠ 0 by omega)
  have ha2 := Int.emod_lt_of_pos a (show 0 < m by omega)
  have hb := Int.emod_nonneg b (show m ≠ 0 by omega)
  have hb2 := Int.emod_lt_of_pos b (show 0 < m by omega)
  obtain ⟨q1, q2⟩ := one_put (pl := pl) (m := m) (p := pl - 1) (t := t) (a := a % m) (by omega) ha2 ht8
  have hD := fun k hk => oneD_ok pl m (pl - 1) t (a % m) k hp6 hm6 hk
  refine WC_drawH (m := 10) (listed := [false, false, false, false, false, false, false, false, false, false]) 10 (by kernel_rfl) rfl rfl H ?_
  intro w H
  refine WG_take (i := 0) (listed' := [true, false, false, false, false, false, false, false, false, false]) rfl (by kernel_rfl) (fun w H => x_move (v := .int .u32 _) rfl) H rfl ?_
  refine WG_take (i := 1) (listed' := [true, true, false, false, false, false, false, false, false, false]) rfl (by kernel_rfl) (fun w H => x_fieldAddr (n := 0) (o' := 2) Try.underlying26 rfl (by kernel_rfl) rfl rfl) H rfl ?_
  refine WG_take (i := 2) (listed' := [true, true, true, false, false, false, false, false, false, false]) rfl (by kernel_rfl) (fun w H => x_load (v := .int .u32 _) Try.underlying22 rfl rfl (H.cellAt (l := (gsmall pl m).val none 0 none 0) (.succ .zero) rfl)) H rfl ?_
  refine WG_take (i := 3) (listed' := [true, true, true, true, false, false, false, false, false, false]) rfl (by kernel_rfl) (fun w H => x_binop rfl rfl (r_rem_nat (by omega) (show 0 < m by omega))) H rfl ?_
  refine WG_take (i := 4) (listed' := [true, true, true, true, true, false, false, false, false, false]) rfl (by kernel_rfl) (fun w H => x_move (v := .int .u32 _) rfl) H rfl ?_
  refine WG_take (i := 5) (listed' := [true, true, true, true, true, true, false, false, false, false]) rfl (by kernel_rfl) (fun w H => x_fieldAddr (n := 0) (o' := 2) Try.underlying26 rfl (by kernel_rfl) rfl rfl) H rfl ?_
  refine WG_take (i := 6) (listed' := [true, true, true, true, true, true, true, false, false, false]) rfl (by kernel_rfl) (fun w H => x_load (v := .int .u32 _) Try.underlying22 rfl rfl (H.cellAt (l := (gsmall pl m).val none 0 none 0) (.succ .zero) rfl)) H rfl ?_
  refine WG_take (i := 7) (listed' := [true, true, true, true, true, true, true, true, false, false]) rfl (by kernel_rfl) (fun w H => x_binop rfl rfl (r_rem_nat (by omega) (show 0 < m by omega))) H rfl ?_
  refine WG_take (i := 8) (listed' := [true, true, true, true, true, true, true, true, true, false]) rfl (by kernel_rfl) (fun w H => x_assign (v := .int .u32 _) rfl) H rfl ?_
  refine WG_take (i := 9) (listed' := [true, true, true, true, true, true, true, true, true, true]) rfl (by kernel_rfl) (fun w H => x_assign (v := .int .u32 _) rfl) H rfl ?_
  refine WG_done (by kernel_rfl) ?_
  refine thenE_normal ?_
  refine WC_seq ?_
  refine WC_seq ?_
  refine WC_region ?_
  refine WL_x (x_move (v := .pointer _) rfl) ?_
  refine WL_x (x_move (v := .int .i64 _) rfl) ?_
  refine WL_x (x_move (v := .int .u32 _) rfl) ?_
  refine WL_x (x_move (v := .int .u32 _) rfl) ?_
  refine WL_call (vs := [.pointer _, .int .i64 _, .int .u32 _, .int .u32 _]) Try.func13 rfl rfl rfl (put_ok _ d b0 _ (pl - 1) t (a % m) (H.ok _ (Has.mem .zero)) (by rw [← newD_small pl m hp6 hm6.1]; exact newD_ok _ (gsmall_ok pl m hp6 hm6)) (by omega) (by omega)) ?_
  rintro _ w ⟨rfl, hf, hok⟩
  rw [q1]
  rw [q2] at hok
  refine ⟨_, rfl, ?_⟩
  replace H := H.turn .zero hf (fun _ h => .inl h) hok (fun _ h => .inl h)
  refine WL_x (x_binop rfl rfl (r_neq _ _ _ _)) ?_
  refine WL_x (x_move (v := .bool _) rfl) ?_
  refine WL_guard_yes rfl rfl rfl ?_
  refine WL_x (x_move (v := .pointer _) rfl) ?_
  refine WL_guard_yes rfl rfl rfl ?_
  refine WL_x (x_move (v := .int .i64 _) rfl) ?_
  refine WL_guard_yes rfl rfl rfl ?_
  refine WL_x (x_move (v := .int .u32 _) rfl) ?_
  refine WL_guard_yes rfl rfl rfl ?_
  refine WL_x (x_move (v := .int .u32 _) rfl) ?_
  refine WL_guard_yes rfl rfl rfl ?_
  refine WL_call (vs := [.pointer _, .int .i64 _, .int .u32 _, .int .u32 _]) Try.func13 rfl rfl rfl (put_ok _ d b0 _ (pl - 1) t (b % m) (H.ok _ (Has.mem .zero)) (hD 0 (by omega)) (by omega) (by omega)) ?_
  rintro _ w ⟨rfl, hf, hok⟩
  have q3 := one_again (pl := pl) (m := m) (p := pl - 1) (t := t) (a := a % m) (b := b % m) (by omega) hb2 ht8
  rw [putD_not (by rw [q3]; decide)] at hok
  rw [q3]
  refine ⟨_, rfl, ?_⟩
  replace H := H.turn .zero hf (fun _ h => .inl h) hok (fun _ h => .inl h)
  refine WL_guard_yes rfl rfl rfl ?_
  refine WL_x (x_binop rfl rfl (r_neq _ _ _ _)) ?_
  refine WL_x (x_pick (v := .bool _) rfl rfl) ?_
  refine WL_nil ?_
  refine thenE_normal ?_
  refine WC_no rfl ?_
  refine WC_skip ?_
  refine thenE_normal ?_
  refine WC_seq ?_
  refine WC_seq ?_
  refine WC_region ?_
  refine WL_x (x_assign (v := (.int .u32 1)) rfl) ?_
  refine WL_nil ?_
  refine thenE_normal ?_
  refine WC_block ?_
  refine WC_while (fun (s : Nat) f w' => (s : Int) ≤ t ∧ f 15 = .int .u32 ((s : Int) + 1) ∧ f 12 = .pointer (some ⟨d, 0, none⟩) ∧ f 13 = .int .i64 (pl - 1) ∧ f 14 = .int .u32 t ∧ f 3 = .int .u32 (a % m) ∧ f 4 = .int .u32 (b % m) ∧ f 11 = .pointer (some ⟨b11, 0, none⟩) ∧ St W [] [deskc d b0 (oneD pl m (pl - 1) t (a % m) s), blk b11 ((gsmall pl m).val none 0 none 0) 26] [] w') (fun s => t.toNat - s) (s0 := 0) ?_ ?_
  · exact ⟨by omega, rfl, rfl, rfl, rfl, rfl, rfl, rfl, H⟩
  · clear H
    rintro k f w ⟨hk, h15, h12, h13, h14, h3, h4, h11, H⟩
    rw [← upd_self h15, ← upd_self h12, ← upd_self h13, ← upd_self h14, ← upd_self h3, ← upd_self h4, ← upd_self h11]
    refine WC_seq ?_
    refine WC_seq ?_
    refine WC_region ?_
    refine WL_x (x_move (v := .int .u32 _) rfl) ?_
    refine WL_x (x_move (v := .int .u32 _) rfl) ?_
    refine WL_x (x_binop rfl rfl (r_leq _ _ _ _)) ?_
    refine WL_nil ?_
    refine thenE_normal ?_
    refine WC_ifd rfl (fun h66 => ?_) (fun h66 => ?_)
    · have q4 := one_take (pl := pl) (m := m) (p := pl - 1) (t := t) (a := a % m) (k := k) (by omega) (by omega)
      have q5 := fun i hi => one_nth (pl := pl) (m := m) (p := pl - 1) (t := t) (a := a % m) (k := k) (by omega) i hi
      have hlen : (takeL (oneD pl m (pl - 1) t (a % m) k)).length = pl.toNat := takeL_len _
      refine WC_skip ?_
      refine thenE_normal ?_
      refine WC_seq ?_
      refine WC_block ?_
      refine WC_seq ?_
      refine WC_region ?_
      refine WL_x (x_move (v := .pointer _) rfl) ?_
      refine WL_call (vs := [.pointer _]) Try.func14 rfl rfl rfl (take_ok _ d b0 _ (H.ok _ (Has.mem .zero)) (hD k (by omega)) (show pl ≤ 1000 by omega)) ?_
      rintro _ w ⟨A1, c1, rfl, hf, hok, hokr, hfr⟩
      rw [q4] at hok
      refine ⟨_, rfl, ?_⟩
      replace H := H.turnNew .zero hf (fun _ h => .inl h) hok (fun _ h => h) hokr hfr
      generalize takeL (oneD pl m (pl - 1) t (a % m) k) = xs at *
      refine WL_x (x_assign (v := .slice _ _ _) rfl) ?_
      refine WL_nil ?_
      refine thenE_normal ?_
      refine WC_seq ?_
      refine WC_region ?_
      refine WL_x (x_move (v := .slice _ _ _) rfl) ?_
      refine WL_x (x_len Try.underlying33 rfl) ?_
      refine WL_x (x_move (v := (.int .i64 0)) rfl) ?_
      refine WL_nil ?_
      refine thenE_normal ?_
      refine WC_block ?_
      refine WC_while (fun (i : Nat) f w' => i ≤ xs.length ∧ f 73 = .int .i64 i ∧ f 72 = .int .i64 xs.length ∧ f 71 = .slice A1 xs.length c1 ∧ f 15 = .int .u32 ((k : Int) + 1) ∧ f 12 = .pointer (some ⟨d, 0, none⟩) ∧ f 13 = .int .i64 (pl - 1) ∧ f 14 = .int .u32 t ∧ f 3 = .int .u32 (a % m) ∧ f 4 = .int .u32 (b % m) ∧ f 11 = .pointer (some ⟨b11, 0, none⟩) ∧ St W [] [row A1 c1 22 1 xs.length (nums .u32 xs), deskc d b0 (oneD pl m (pl - 1) t (a % m) ((k : Int) + 1)), blk b11 ((gsmall pl m).val none 0 none 0) 26] [] w') (fun i => xs.length - i) (s0 := 0) ?_ ?_
      · exact ⟨Nat.zero_le _, rfl, rfl, rfl, rfl, rfl, rfl, rfl, rfl, rfl, rfl, H⟩
      · clear H
        rintro i f w ⟨hi, h73, h72, h71, h15, h12, h13, h14, h3, h4, h11, H⟩
        rw [← upd_self h73, ← upd_self h72, ← upd_self h71, ← upd_self h15, ← upd_self h12, ← upd_self h13, ← upd_self h14, ← upd_self h3, ← upd_self h4, ← upd_self h11]
        refine WC_seq ?_
        refine WC_region ?_
        refine WL_x (x_binop rfl rfl (r_lss _ _ _ _)) ?_
        refine WL_nil ?_
        refine thenE_normal ?_
        refine WC_seq ?_
        refine WC_ifd rfl (fun h74 => ?_) (fun h74 => ?_)
        · have q7 := q5 i (by omega)
          refine WC_skip ?_
          refine thenE_normal ?_
          refine WC_seq ?_
          refine WC_block ?_
          refine WC_seq ?_
          refine WC_region ?_
          refine WL_x (x_move (v := .int .i64 _) rfl) ?_
          refine WL_x (x_indexAddr (s := 1) Try.underlying33 (by kernel_rfl) rfl rfl (by omega) (by omega) (by first | rfl | assumption | exact H.rsomen .zero (by omega) | exact H.rsomen (.succ .zero) (by omega) | exact H.rsomen (.succ (.succ .zero)) (by omega) | exact H.osomen .zero (by omega) | exact H.osomen (.succ .zero) (by omega) | exact H.osomen (.succ (.succ .zero)) (by omega)) rfl) ?_
          first | refine WL_x (x_load (v := .int .u32 _) Try.underlying22 rfl rfl (H.cellAt .zero rfl)) ?_ | refine WL_x (x_load (v := .int .u32 _) Try.underlying22 rfl rfl (H.cellAt (.succ .zero) rfl)) ?_ | refine WL_x (x_load (v := .int .u32 _) Try.underlying22 rfl rfl (H.cellAt (.succ (.succ .zero)) rfl)) ?_ | refine WL_x (x_load (v := .int .u32 _) Try.underlying22 rfl rfl (H.cellAt (.succ (.succ (.succ .zero))) rfl)) ?_ | refine WL_x (x_load (v := .int .u32 _) Try.underlying22 rfl rfl (H.cellAt (.succ (.succ (.succ (.succ .zero)))) rfl)) ?_ | refine WL_x (x_load Try.underlying22 rfl rfl (H.rnum .zero (by omega) (by omega))) ?_ | refine WL_x (x_load Try.underlying22 rfl rfl (H.rnum (.succ .zero) (by omega) (by omega))) ?_ | refine WL_x (x_load Try.underlying22 rfl rfl (H.rnum (.succ (.succ .zero)) (by omega) (by omega))) ?_ | refine WL_x (x_load Try.underlying22 rfl rfl (H.onum .zero (by omega) (by omega))) ?_ | refine WL_x (x_load Try.underlying22 rfl rfl (H.onum (.succ .zero) (by omega) (by omega))) ?_ | refine WL_x (x_load Try.underlying22 rfl rfl (H.onum (.succ (.succ .zero)) (by omega) (by omega))) ?_
          refine WL_x (x_assign (v := .int .i64 _) rfl) ?_
          refine WL_x (x_assign (v := .int .u32 _) rfl) ?_
          refine WL_nil ?_
          refine thenE_normal ?_
          refine WC_seq ?_
          refine WC_region ?_
          refine WL_x (x_fieldAddr (n := 0) (o' := 3) Try.underlying26 rfl (by kernel_rfl) rfl rfl) ?_
          refine WL_x (x_load (v := .int .u32 _) Try.underlying22 rfl rfl (H.cellAt (l := (gsmall pl m).val none 0 none 0) (.succ (.succ .zero)) rfl)) ?_
          refine WL_x (x_assign (v := .int .u32 _) rfl) ?_
          refine WL_nil ?_
          refine thenE_normal ?_
          refine WC_seq ?_
          refine WC_seq ?_
          refine WC_region ?_
          refine WL_x (x_move (v := .int .i64 _) rfl) ?_
          refine WL_x (x_move (v := .int .i64 _) rfl) ?_
          refine WL_x (x_binop rfl rfl (r_eql _ _ _ _)) ?_
          refine WL_x (x_move (v := .bool _) rfl) ?_
          first | refine WL_cased (t := 83) rfl (fun h83 => ?_) (fun h83 => ?_) | refine WL_casen (t := 83) rfl (fun h83 => ?_) (fun h83 => ?_) | refine WL_case (t := 83) rfl (fun h83 => ?_) (fun h83 => ?_)
          · refine WL_guard_yes rfl rfl rfl ?_
            refine WL_x (x_move (v := .int .u32 _) rfl) ?_
            refine WL_guard_yes rfl rfl rfl ?_
            refine WL_x (x_move (v := .int .u32 _) rfl) ?_
            refine WL_guard_yes rfl rfl rfl ?_
            refine WL_x (x_binop rfl rfl (r_eql _ _ _ _)) ?_
            refine WL_x (x_pick (v := .bool _) rfl rfl) ?_
            refine WL_nil ?_
            refine thenE_normal ?_
            refine WC_ifd rfl (fun h87 => ?_) (fun h87 => ?_)
            · rw [if_pos ⟨h83, h87⟩] at q7
              refine WC_region ?_
              refine WL_x (x_move (v := .int .u32 _) rfl) ?_
              refine WL_x (x_assign (v := .int .u32 _) rfl) ?_
              refine WL_nil ?_
              refine thenE_normal ?_
              refine WC_seq ?_
              refine WC_region ?_
              refine WL_x (x_move (v := .int .u32 _) rfl) ?_
              refine WL_x (x_move (v := .int .u32 _) rfl) ?_
              refine WL_x (x_binop rfl rfl (r_neq _ _ _ _)) ?_
              refine WL_nil ?_
              refine thenE_normal ?_
              refine WC_ifd rfl (fun h91 => ?_) (fun h91 => ?_)
              · exact absurd q7 h91
              · refine WC_skip ?_
                refine inBlockE_normal ?_
                refine thenE_normal ?_
                refine WC_region ?_
                refine WL_x (x_binop rfl rfl (r_add_in (i64_in (by omega) (by omega)))) ?_
                refine WL_x (x_move (v := .int .i64 _) rfl) ?_
                refine WL_nil ?_
                refine thenE_normal ?_
                exact ⟨i + 1, ⟨by omega, rfl, rfl, rfl, rfl, rfl, rfl, rfl, rfl, rfl, rfl, H⟩, by omega⟩
            · rw [if_neg (fun hh => h87 hh.2)] at q7
              refine WC_skip ?_
              refine thenE_normal ?_
              refine WC_seq ?_
              refine WC_region ?_
              refine WL_x (x_move (v := .int .u32 _) rfl) ?_
              refine WL_x (x_move (v := .int .u32 _) rfl) ?_
              refine WL_x (x_binop rfl rfl (r_neq _ _ _ _)) ?_
              refine WL_nil ?_
              refine thenE_normal ?_
              refine WC_ifd rfl (fun h91 => ?_) (fun h91 => ?_)
              · exact absurd q7 h91
              · refine WC_skip ?_
                refine inBlockE_normal ?_
                refine thenE_normal ?_
                refine WC_region ?_
                refine WL_x (x_binop rfl rfl (r_add_in (i64_in (by omega) (by omega)))) ?_
                refine WL_x (x_move (v := .int .i64 _) rfl) ?_
                refine WL_nil ?_
                refine thenE_normal ?_
                exact ⟨i + 1, ⟨by omega, rfl, rfl, rfl, rfl, rfl, rfl, rfl, rfl, rfl, rfl, H⟩, by omega⟩
          · rw [if_neg (fun hh => h83 hh.1)] at q7
            refine WL_guard_no rfl rfl rfl ?_
            refine WL_guard_no rfl rfl rfl ?_
            refine WL_guard_no rfl rfl rfl ?_
            refine WL_x (x_pick (v := .bool _) rfl rfl) ?_
            refine WL_nil ?_
            refine thenE_normal ?_
            refine WC_no rfl ?_
            refine WC_skip ?_
            refine thenE_normal ?_
            refine WC_seq ?_
            refine WC_region ?_
            refine WL_x (x_move (v := .int .u32 _) rfl) ?_
            refine WL_x (x_move (v := .int .u32 _) rfl) ?_
            refine WL_x (x_binop rfl rfl (r_neq _ _ _ _)) ?_
            refine WL_nil ?_
            refine thenE_normal ?_
            refine WC_ifd rfl (fun h91 => ?_) (fun h91 => ?_)
            · exact absurd q7 h91
            · refine WC_skip ?_
              refine inBlockE_normal ?_
              refine thenE_normal ?_
              refine WC_region ?_
              refine WL_x (x_binop rfl rfl (r_add_in (i64_in (by omega) (by omega)))) ?_
              refine WL_x (x_move (v := .int .i64 _) rfl) ?_
              refine WL_nil ?_
              refine thenE_normal ?_
              exact ⟨i + 1, ⟨by omega, rfl, rfl, rfl, rfl, rfl, rfl, rfl, rfl, rfl, rfl, H⟩, by omega⟩
        · refine WC_exit ?_
          refine thenE_exit ?_
          refine thenE_exit ?_
          refine inBlockE_exit ?_
          refine inBlockE_normal ?_
          refine thenE_normal ?_
          refine WC_region ?_
          refine WL_x (x_move (v := .int .u32 _) rfl) ?_
          refine WL_x (x_binop rfl rfl (r_add_in (u32_in (by omega) (by omega)))) ?_
          refine WL_x (x_assign (v := .int .u32 _) rfl) ?_
          refine WL_nil ?_
          refine thenE_normal ?_
          exact ⟨k + 1, ⟨by omega, rfl, rfl, rfl, rfl, rfl, rfl, rfl, H.pop⟩, by omega⟩
    · have ek : (k : Int) = t := by omega
      rw [ek] at H
      have hno : heldL (oneD pl m (pl - 1) t (a % m) t) (pl - 1) = [] := heldL_none (fun q => by simp [oneD]) _
      have q6 := one_late (pl := pl) (m := m) (p := pl - 1) (t := t) (a := a % m) (b := b % m) (by omega) hb2
      refine WC_exit ?_
      refine thenE_exit ?_
      refine thenE_exit ?_
      refine inBlockE_exit ?_
      refine thenE_normal ?_
      refine WC_seq ?_
      refine WC_region ?_
      refine WL_x (x_move (v := .pointer _) rfl) ?_
      refine WL_x (x_move (v := .int .i64 _) rfl) ?_
      refine WL_call (vs := [.pointer _, .int .i64 _]) Try.func17 rfl rfl rfl (held_ok _ d b0 _ (pl - 1) (H.ok _ (Has.mem .zero)) (oneD_inv _ _ _ _ _ _ (by omega))) ?_
      rintro _ w ⟨A1, c1, rfl, hf, hok, hokr, hfr⟩
      rw [hno, List.length_nil]
      refine ⟨_, rfl, ?_⟩
      replace H := H.turn .zero hf (fun _ h => .inl h) hok (fun _ h => .inl h)
      refine WL_x (x_len Try.underlying33 rfl) ?_
      refine WL_x (x_binop rfl rfl (r_eql _ _ _ _)) ?_
      refine WL_x (x_move (v := .bool _) rfl) ?_
      refine WL_guard_yes rfl rfl rfl ?_
      refine WL_x (x_move (v := .pointer _) rfl) ?_
      refine WL_guard_yes rfl rfl rfl ?_
      refine WL_x (x_move (v := .int .i64 _) rfl) ?_
      refine WL_guard_yes rfl rfl rfl ?_
      refine WL_x (x_move (v := .int .u32 _) rfl) ?_
      refine WL_guard_yes rfl rfl rfl ?_
      refine WL_x (x_move (v := .int .u32 _) rfl) ?_
      refine WL_guard_yes rfl rfl rfl ?_
      refine WL_call (vs := [.pointer _, .int .i64 _, .int .u32 _, .int .u32 _]) Try.func13 rfl rfl rfl (put_ok _ d b0 _ (pl - 1) t (b % m) (H.ok _ (Has.mem .zero)) (hD t (by omega)) (by omega) (by omega)) ?_
      rintro _ w ⟨rfl, hf, hok⟩
      rw [q6]
      refine ⟨_, rfl, ?_⟩
      replace H := H.turn .zero hf (fun _ h => .inl h) hok (fun _ h => .inl h)
      refine WL_guard_yes rfl rfl rfl ?_
      refine WL_x (x_binop rfl rfl (r_eql _ _ _ _)) ?_
      refine WL_x (x_pick (v := .bool _) rfl rfl) ?_
      refine WL_x (x_assign (v := .bool _) rfl) ?_
      refine WL_nil ?_
      refine thenE_normal ?_
      refine WC_ret ?_
      refine ends1 (v := .bool _) Try.results4 rfl ?_
      exact ⟨rfl, H.fr⟩

theorem idle2_ok (k : Int) (hk : 0 ≤ k ∧ k ≤ 4294967295) : (⟨1, 2, 0, k, fun _ => none⟩ : Dk).ok := ⟨by simp only; omega, by simp only; omega, by simp only; omega, by simp only; omega, by simp only; omega, by simp only; omega, hk.1, hk.2⟩
theorem idle2_take (k : Int) (hk : 0 ≤ k ∧ k ≤ 300) : takeD ⟨1, 2, 0, k, fun _ => none⟩ = ⟨1, 2, 0, k + 1, fun _ => none⟩ := by
  have e : nextT ⟨1, 2, 0, k, fun _ => none⟩ = k + 1 := by unfold nextT; simp only; rw [IntKind.wrap_u32]; omega
  unfold takeD takeM
  rw [e]
  simp only [Dk.mk.injEq, true_and]
  funext q
  split <;> rfl
theorem idle2_put (k t : Int) (hk : 0 ≤ k ∧ k ≤ 300) (ht : 0 ≤ t ∧ t ≤ 400) : putE ⟨1, 2, 0, k, fun _ => none⟩ 0 t 1 = if t ≤ k then 11 else if t - k > 8 then 14 else 0 := by
  unfold putE
  rw [if_neg (by simp only; omega), if_neg (by simp only; omega)]
  simp only [Option.isSome_none, Bool.false_eq_true, if_false]
def heldOne (k t : Int) : Dk := ⟨1, 2, 0, k, fun q => if q = (0, t) then some 1 else none⟩
theorem heldOne_ok (k t : Int) (hk : 0 ≤ k ∧ k ≤ 4294967295) : (heldOne k t).ok := ⟨by simp only [heldOne]; omega, by simp only [heldOne]; omega, by simp only [heldOne]; omega, by simp only [heldOne]; omega, by simp only [heldOne]; omega, by simp only [heldOne]; omega, hk.1, hk.2⟩
theorem heldOne_put (k t : Int) (h : putE ⟨1, 2, 0, k, fun _ => none⟩ 0 t 1 = 0) : putD ⟨1, 2, 0, k, fun _ => none⟩ 0 t 1 = heldOne k t := by
  unfold putD
  rw [if_pos h]
  rfl
theorem heldOne_inv (k t : Int) (h : k < t ∧ t ≤ k + 8) : (heldOne k t).inv := ⟨fun q u v hv => by
  simp only [heldOne] at hv
  split at hv
  · rename_i e
    obtain ⟨rfl, rfl⟩ := Prod.mk.inj e
    exact ⟨h.1, h.2⟩
  · cases hv⟩
theorem heldOne_L (k t : Int) (h : k < t ∧ t ≤ k + 8) : heldL (heldOne k t) 0 = [t] := by
  have h1 := heldL_lt (heldOne k t) 0
  have hm := fun u => mem_heldL (heldOne k t) (heldOne_inv k t h) 0 u
  have hm2 : ∀ u, u ∈ heldL (heldOne k t) 0 ↔ u = t := fun u => by
    rw [hm u]
    simp only [heldOne, Prod.mk.injEq, true_and]
    by_cases hu : u = t <;> simp [hu]
  generalize heldL (heldOne k t) 0 = l at h1 hm2
  match l, h1, hm2 with
  | [], _, hm2 => exact absurd ((hm2 t).2 rfl) (by simp)
  | [x], _, hm2 => rw [(hm2 x).1 (by simp)]
  | x :: y :: r, h1, hm2 =>
    have ex := (hm2 x).1 (by simp)
    have ey := (hm2 y).1 (by simp)
    simp at h1
    omega
theorem heldOne_drop (k t : Int) : ∀ q, (dropD (heldOne k t) 0).l q = none := by
  intro ⟨p, u⟩
  simp only [dropD, heldOne, Prod.mk.injEq]
  by_cases hp : p = 0
  · rw [if_pos hp]
  · rw [if_neg hp, if_neg (fun hh => hp hh.1)]
def g1t : Gm := ⟨1, 1, 2, 0, [], []⟩
theorem g1t_ok : g1t.ok := ⟨by decide, by decide, by decide, by decide, by decide, by decide, by decide, by decide, by simp [g1t], by simp [g1t], by simp [g1t]⟩
theorem g1t_new : newD g1t = ⟨1, 2, 0, 0, fun _ => none⟩ := by
  have : gameRight g1t = true := by decide
  unfold newD; rw [if_pos this]; rfl

set_option maxHeartbeats 1000000 in
theorem times_ok (W : World) (now at_ : Int) (h0 : 0 ≤ now ∧ now ≤ 255) (h1 : -32768 ≤ at_ ∧ at_ ≤ 32767) :
    Calls Try.prog 6 #[.int .u8 now, .int .i16 at_] W fun e w' => e = .returned (.bool true) ∧ Fr [] W w' := by
  have H : St W [] [] [] W := St.start [] (by simp)
  refine calls_enter (N := 64) Try.func6 rfl Try.ntmps6 rfl ?_
  refine WC_seq ?_
  refine WC_region ?_
  refine WL_x (x_assign (v := (.bool false)) rfl) ?_
  refine WL_nil ?_
  refine thenE_normal ?_
  refine WC_seq ?_
  refine WC_seq ?_
  refine WC_region ?_
  refine WL_call (vs := []) Try.func9 rfl rfl rfl (awake_ok _) ?_
  rintro _ w ⟨rfl, hf⟩
  refine ⟨_, rfl, ?_⟩
  replace H := H.quiet hf
  refine WL_x (x_not rfl) ?_
  refine WL_nil ?_
  refine thenE_normal ?_
  refine WC_no rfl ?_
  refine WC_skip ?_
  refine thenE_normal ?_
  refine WC_seq ?_
  refine WC_region ?_
  refine WL_x (x_buildS (pl := [(0, 1), (1, 1), (2, 1), (3, 1), (4, 1), (5, 1)]) (zero := [(.int .i64 0), (.int .i64 0), (.int .u32 0), (.int .u32 0), (.slice none 0 0), (.slice none 0 0)]) (cells := [_, _, _, _, _, _]) (vs := [(0, (.int .i64 1)), (1, (.int .i64 1)), (2, (.int .u32 2))]) Try.underlying26 (by kernel_rfl) (by kernel_rfl) (by kernel_rfl) rfl rfl) ?_
  refine WL_call (vs := [.agg (List.toArray _)]) Try.func12 rfl rfl rfl (new_ok _ g1t none none 0 0 g1t_ok (Cells.nil _ _) (Cells.nil _ _)) ?_
  rintro _ w ⟨d, b0, rfl, hf, hok, hfr⟩
  rw [g1t_new] at hok hfr
  refine ⟨_, rfl, ?_⟩
  replace H := H.new hf hok hfr
  refine WL_x (x_assign (v := .pointer _) rfl) ?_
  refine WL_nil ?_
  refine thenE_normal ?_
  refine WC_seq ?_
  refine WC_seq ?_
  refine WC_region ?_
  refine WL_x (x_move (v := .int .u8 _) rfl) ?_
  refine WL_x (x_move (v := (.int .u8 0)) rfl) ?_
  refine WL_nil ?_
  refine thenE_normal ?_
  refine WC_block ?_
  refine WC_while (fun (k : Nat) f w' => (k : Int) ≤ now ∧ f 14 = .int .u8 k ∧ f 13 = .int .u8 now ∧ f 0 = .int .u8 now ∧ f 1 = .int .i16 at_ ∧ f 5 = .pointer (some ⟨d, 0, none⟩) ∧ St W [] [deskc d b0 ⟨1, 2, 0, (k : Int), fun _ => none⟩] [] w') (fun k => now.toNat - k) (s0 := 0) ?_ ?_
  · exact ⟨by omega, rfl, rfl, rfl, rfl, rfl, H⟩
  · clear H
    rintro k f w ⟨hk, h14, h13, hf0, hf1, hf5, H⟩
    rw [← upd_self h14, ← upd_self h13, ← upd_self hf0, ← upd_self hf1, ← upd_self hf5]
    refine WC_seq ?_
    refine WC_region ?_
    refine WL_x (x_binop rfl rfl (r_lss _ _ _ _)) ?_
    refine WL_nil ?_
    refine thenE_normal ?_
    refine WC_seq ?_
    refine WC_ifd rfl (fun h15 => ?_) (fun h15 => ?_)
    · refine WC_skip ?_
      refine thenE_normal ?_
      refine WC_seq ?_
      refine WC_block ?_
      refine WC_region ?_
      refine WL_x (x_move (v := .pointer _) rfl) ?_
      refine WL_call (vs := [.pointer _]) Try.func14 rfl rfl rfl (take_ok _ d b0 _ (H.ok _ (Has.mem .zero)) (idle2_ok k (by omega)) (show (1 : Int) ≤ 1000 by decide)) ?_
      rintro _ w ⟨A1, c1, rfl, hf, hok, hokr, hfr⟩
      rw [idle2_take k (by omega)] at hok
      refine ⟨_, rfl, ?_⟩
      replace H := H.turn .zero hf (fun _ h => .inl h) hok (fun _ h => .inl h)
      refine WL_nil ?_
      refine inBlockE_normal ?_
      refine thenE_normal ?_
      refine WC_region ?_
      refine WL_x (x_binop rfl rfl (r_add_in (u8_in (by omega) (by omega)))) ?_
      refine WL_x (x_move (v := .int .u8 _) rfl) ?_
      refine WL_nil ?_
      refine thenE_normal ?_
      exact ⟨k + 1, ⟨by omega, (congrArg (Value.int .u8) (by first | omega | rfl | (simp only; omega))), rfl, rfl, rfl, rfl, H⟩, by omega⟩
    · have ek : (k : Int) = now := by omega
      rw [ek] at H
      refine WC_exit ?_
      refine thenE_exit ?_
      refine thenE_exit ?_
      refine inBlockE_exit ?_
      refine thenE_normal ?_
      refine WC_seq ?_
      refine WC_region ?_
      refine WL_x (x_move (v := .int .u8 _) rfl) ?_
      refine WL_x (x_convert Try.underlying5 Try.underlying3 rfl (i64_in (by omega) (by omega))) ?_
      refine WL_x (x_move (v := .int .i16 _) rfl) ?_
      refine WL_x (x_binop rfl rfl (r_rem (by omega))) ?_
      obtain ⟨r, hr⟩ : ∃ r, r = at_.tmod 20 := ⟨_, rfl⟩
      have hr1 : -20 < r ∧ r < 20 := by
        rw [hr]
        have e1 := Int.lt_tmod_of_pos at_ (show (0 : Int) < 20 by decide)
        have e2 := Int.tmod_lt_of_pos at_ (show (0 : Int) < 20 by decide)
        exact ⟨e1, e2⟩
      rw [← hr]
      refine WL_x (x_convert Try.underlying41 Try.underlying3 rfl (i64_in (by omega) (by omega))) ?_
      refine WL_x (x_binop rfl rfl (r_add_in (i64_in (by omega) (by omega)))) ?_
      refine WL_x (x_assign (v := .int .i64 _) rfl) ?_
      refine WL_nil ?_
      refine thenE_normal ?_
      refine WC_seq ?_
      refine WC_seq ?_
      refine WC_region ?_
      refine WL_x (x_move (v := .int .i64 _) rfl) ?_
      refine WL_x (x_binop rfl rfl (r_lss _ _ _ _)) ?_
      refine WL_nil ?_
      refine thenE_normal ?_
      refine WC_ifd rfl (fun h26 => ?_) (fun h26 => ?_)
      · refine WC_seq ?_
        refine WC_region ?_
        refine WL_x (x_assign (v := (.bool true)) rfl) ?_
        refine WL_nil ?_
        refine thenE_normal ?_
        refine WC_ret ?_
        refine thenE_ret ?_
        refine ends1 (v := .bool _) Try.results6 rfl ?_
        first
          | exact ⟨by rw [q]; rfl, H.fr⟩
          | exact ⟨rfl, H.fr⟩
      · have q := idle2_put now (now + r) (by omega) (by omega)
        refine WC_skip ?_
        refine thenE_normal ?_
        refine WC_seq ?_
        refine WC_region ?_
        refine WL_x (x_move (v := .pointer _) rfl) ?_
        refine WL_x (x_move (v := .int .i64 _) rfl) ?_
        refine WL_x (x_convert Try.underlying3 Try.underlying22 rfl (u32_in (by omega) (by omega))) ?_
        refine WL_call (vs := [.pointer _, (.int .i64 0), .int .u32 _, (.int .u32 1)]) Try.func13 rfl rfl rfl (put_ok _ d b0 _ 0 (now + r) 1 (H.ok _ (Has.mem .zero)) (idle2_ok now (by omega)) (by omega) (by omega)) ?_
        rintro _ w ⟨rfl, hf, hok⟩
        
        refine ⟨_, rfl, ?_⟩
        replace H := H.turn .zero hf (fun _ h => .inl h) hok (fun _ h => .inl h)
        refine WL_x (x_assign (v := .int .i64 _) rfl) ?_
        refine WL_nil ?_
        refine thenE_normal ?_
        refine WC_seq ?_
        refine WC_seq ?_
        refine WC_region ?_
        refine WL_x (x_move (v := .int .i64 _) rfl) ?_
        refine WL_x (x_move (v := .int .u8 _) rfl) ?_
        refine WL_x (x_convert Try.underlying5 Try.underlying3 rfl (i64_in (by omega) (by omega))) ?_
        refine WL_x (x_binop rfl rfl (r_sub_in (i64_in (by omega) (by omega)))) ?_
        refine WL_x (x_assign (v := .int .i64 _) rfl) ?_
        refine WL_nil ?_
        refine thenE_normal ?_
        refine WC_block ?_
        refine WC_seq ?_
        refine WC_region ?_
        refine WL_x (x_move (v := .int .i64 _) rfl) ?_
        refine WL_x (x_binop rfl rfl (r_leq _ _ _ _)) ?_
        refine WL_x (x_assign (v := .bool _) rfl) ?_
        refine WL_nil ?_
        refine thenE_normal ?_
        refine WC_ifd rfl (fun h35 => ?_) (fun h35 => ?_)
        · rw [if_pos (by omega)] at q
          refine WC_seq ?_
          refine WC_region ?_
          refine WL_x (x_move (v := .int .i64 _) rfl) ?_
          refine WL_x (x_binop rfl rfl (r_eql _ _ _ _)) ?_
          refine WL_x (x_assign (v := .bool _) rfl) ?_
          refine WL_nil ?_
          refine thenE_normal ?_
          refine WC_ret ?_
          refine inBlockE_ret ?_
          refine thenE_ret ?_
          refine ends1 (v := .bool _) Try.results6 rfl ?_
          first
            | exact ⟨by rw [q]; rfl, H.fr⟩
            | exact ⟨rfl, H.fr⟩
        · refine WC_seq ?_
          refine WC_region ?_
          refine WL_x (x_move (v := .int .i64 _) rfl) ?_
          refine WL_x (x_binop rfl rfl (r_gtr _ _ _ _)) ?_
          refine WL_x (x_assign (v := .bool _) rfl) ?_
          refine WL_nil ?_
          refine thenE_normal ?_
          refine WC_ifd rfl (fun h40 => ?_) (fun h40 => ?_)
          · rw [if_neg (by omega), if_pos (by omega)] at q
            refine WC_seq ?_
            refine WC_region ?_
            refine WL_x (x_move (v := .int .i64 _) rfl) ?_
            refine WL_x (x_binop rfl rfl (r_eql _ _ _ _)) ?_
            refine WL_x (x_assign (v := .bool _) rfl) ?_
            refine WL_nil ?_
            refine thenE_normal ?_
            refine WC_ret ?_
            refine inBlockE_ret ?_
            refine thenE_ret ?_
            refine ends1 (v := .bool _) Try.results6 rfl ?_
            first
              | exact ⟨by rw [q]; rfl, H.fr⟩
              | exact ⟨rfl, H.fr⟩
          · rw [if_neg (by omega), if_neg (by omega)] at q
            rw [heldOne_put _ _ q] at H
            have hL := heldOne_L now (now + r) (by omega)
            have hI := heldOne_inv now (now + r) (by omega)
            have hno := heldL_none (heldOne_drop now (now + r)) 0
            refine WC_skip ?_
            refine inBlockE_normal ?_
            refine thenE_normal ?_
            refine WC_seq ?_
            refine WC_region ?_
            refine WL_x (x_move (v := .int .i64 _) rfl) ?_
            refine WL_x (x_binop rfl rfl (r_eql _ _ _ _)) ?_
            refine WL_x (x_move (v := .bool _) rfl) ?_
            first | refine WL_cased (t := 47) rfl (fun h47 => ?_) (fun h47 => ?_) | refine WL_casen (t := 47) rfl (fun h47 => ?_) (fun h47 => ?_) | refine WL_case (t := 47) rfl (fun h47 => ?_) (fun h47 => ?_)
            · refine WL_guard_yes rfl rfl rfl ?_
              refine WL_x (x_move (v := .pointer _) rfl) ?_
              refine WL_guard_yes rfl rfl rfl ?_
              refine WL_call (vs := [.pointer _, (.int .i64 0)]) Try.func17 rfl rfl rfl (held_ok _ d b0 _ 0 (H.ok _ (Has.mem .zero)) hI) ?_
              rintro _ w ⟨A1, c1, rfl, hf, hok, hokr, hfr⟩
              rw [hL]
              refine ⟨_, rfl, ?_⟩
              replace H := H.turn .zero hf (fun _ h => .inl h) hok (fun _ h => .inl h)
              refine WL_guard_yes rfl rfl rfl ?_
              refine WL_x (x_len Try.underlying33 rfl) ?_
              refine WL_guard_yes rfl rfl rfl ?_
              refine WL_x (x_binop rfl rfl (r_eql _ _ _ _)) ?_
              refine WL_x (x_pick (v := .bool _) rfl rfl) ?_
              refine WL_x (x_move (v := .bool _) rfl) ?_
              refine WL_guard_yes rfl rfl rfl ?_
              refine WL_x (x_move (v := .pointer _) rfl) ?_
              refine WL_guard_yes rfl rfl rfl ?_
              refine WL_call (vs := [.pointer _, (.int .i64 0)]) Try.func18 rfl rfl rfl (drop_ok _ d b0 _ 0 (H.ok _ (Has.mem .zero)) (heldOne_ok now (now + r) (by omega)) hI (by omega)) ?_
              rintro _ w ⟨rfl, hf, hok⟩
              rw [hL]
              refine ⟨_, rfl, ?_⟩
              replace H := H.turn .zero hf (fun _ h => .inl h) hok (fun _ h => .inl h)
              refine WL_guard_yes rfl rfl rfl ?_
              refine WL_x (x_binop rfl rfl (r_eql _ _ _ _)) ?_
              refine WL_x (x_pick (v := .bool _) rfl rfl) ?_
              refine WL_x (x_move (v := .bool _) rfl) ?_
              refine WL_guard_yes rfl rfl rfl ?_
              refine WL_x (x_move (v := .pointer _) rfl) ?_
              refine WL_guard_yes rfl rfl rfl ?_
              refine WL_call (vs := [.pointer _, (.int .i64 0)]) Try.func17 rfl rfl rfl (held_ok _ d b0 _ 0 (H.ok _ (Has.mem .zero)) ⟨fun p u v hv => by rw [heldOne_drop] at hv; cases hv⟩) ?_
              rintro _ w ⟨A1, c1, rfl, hf, hok, hokr, hfr⟩
              rw [hno]
              refine ⟨_, rfl, ?_⟩
              replace H := H.turn .zero hf (fun _ h => .inl h) hok (fun _ h => .inl h)
              refine WL_guard_yes rfl rfl rfl ?_
              refine WL_x (x_len Try.underlying33 rfl) ?_
              refine WL_guard_yes rfl rfl rfl ?_
              refine WL_x (x_binop rfl rfl (r_eql _ _ _ _)) ?_
              refine WL_x (x_pick (v := .bool _) rfl rfl) ?_
              refine WL_x (x_assign (v := .bool _) rfl) ?_
              refine WL_nil ?_
              refine thenE_normal ?_
              refine WC_ret ?_
              refine ends1 (v := .bool _) Try.results6 rfl ?_
              first
                | exact ⟨by rw [q]; rfl, H.fr⟩
                | exact ⟨rfl, H.fr⟩
            · exact absurd q h47
end Go.Proofs.Ytecdgmdkepiopaa
