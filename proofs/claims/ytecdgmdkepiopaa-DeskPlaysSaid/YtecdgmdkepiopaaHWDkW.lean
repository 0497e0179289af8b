import Derived.Test.YtecdgmdkepiopaaHWDkC
import Derived.Test.YtecdgmdkepiopaaHWDkH
set_option linter.unusedSimpArgs false
set_option linter.unusedVariables false
set_option linter.unusedSectionVars false
namespace Go.Proofs.Ytecdgmdkepiopaa
open Go Go.HW Go.RowKit
attribute [local irreducible] WL WC WG wpList Code.wp

theorem newD_inv (g : Gm) : (newD g).inv := ⟨fun p t v h => by simp [newD] at h⟩
theorem idle_inv (G : Gm) (t : Int) : (idle G t).inv := ⟨fun p t v h => by simp [idle] at h⟩
theorem putE_zero {D : Dk} {p t m : Int} (h : putE D p t m = 0) : 0 ≤ p ∧ p < D.pl ∧ m < D.moves ∧ D.tick < t ∧ t ≤ D.tick + 8 ∧ D.l (p, t) = none := by
  unfold putE at h
  split at h
  · cases h
  · split at h
    · cases h
    · split at h
      · cases h
      · split at h
        · cases h
        · split at h
          · cases h
          · rename_i h1 h2 h3 h4 h5
            refine ⟨by omega, by omega, by omega, by omega, by omega, ?_⟩
            cases hl : D.l (p, t) with
            | none => rfl
            | some v => rw [hl] at h5; simp at h5
theorem putD_inv {D : Dk} (hi : D.inv) (p t m : Int) : (putD D p t m).inv := by
  unfold putD
  split
  · rename_i h
    have hz := putE_zero h
    refine ⟨fun q u v hv => ?_⟩
    simp only [mset] at hv
    split at hv
    · rename_i he
      obtain ⟨rfl, rfl⟩ := Prod.mk.inj he
      exact ⟨hz.2.2.2.1, hz.2.2.2.2.1⟩
    · exact hi.held q u v hv
  · exact hi
theorem heldL_none {D : Dk} (h : ∀ k, D.l k = none) (p : Int) : heldL D p = [] := by
  unfold heldL
  rw [List.filter_eq_nil_iff]
  intro t _
  rw [h]; simp
theorem putD_not {D : Dk} {p t m : Int} (h : putE D p t m ≠ 0) : putD D p t m = D := by unfold putD; rw [if_neg h]
def g2 : Gm := ⟨2, 2, 3, 0, [], []⟩
theorem g2_ok : g2.ok := ⟨by decide, by decide, by decide, by decide, by decide, by decide, by decide, by decide, by simp [g2], by simp [g2], by simp [g2]⟩

theorem wrong_ok (W : World) (player move tick : Int) (hp : -9223372036854775808 ≤ player ∧ player ≤ 9223372036854775807) (hm : 0 ≤ move ∧ move ≤ 4294967295) (ht : 0 ≤ tick ∧ tick ≤ 4294967295) :
    Calls Try.prog 5 #[.int .i64 player, .int .u32 move, .int .u32 tick] W fun e w' => e = .returned (.bool true) ∧ Fr [] W w' := by
  have H : St W [] [] [] W := St.start [] (by simp)
  refine calls_enter (N := 52) Try.func5 rfl Try.ntmps5 rfl ?_
  refine WC_seq ?_
  refine WC_region ?_
  refine WL_x (x_assign (v := (.bool false)) rfl) ?_
  refine WL_nil ?_
  refine thenE_normal ?_
  refine WC_seq ?_
  refine WC_seq ?_
  refine WC_region ?_
  refine WL_call (vs := []) Try.func9 rfl rfl rfl (awake_ok _) ?_
  rintro _ w ⟨rfl, hf⟩
  refine ⟨_, rfl, ?_⟩
  replace H := H.quiet hf
  refine WL_x (x_not rfl) ?_
  refine WL_nil ?_
  refine thenE_normal ?_
  refine WC_no rfl ?_
  refine WC_skip ?_
  refine thenE_normal ?_
  refine WC_seq ?_
  refine WC_region ?_
  refine WL_x (x_buildS (pl := [(0, 1), (1, 1), (2, 1), (3, 1), (4, 1), (5, 1)]) (zero := [(.int .i64 0), (.int .i64 0), (.int .u32 0), (.int .u32 0), (.slice none 0 0), (.slice none 0 0)]) (cells := [_, _, _, _, _, _]) (vs := [(0, (.int .i64 2)), (1, (.int .i64 2)), (2, (.int .u32 3))]) Try.underlying26 (by kernel_rfl) (by kernel_rfl) (by kernel_rfl) rfl rfl) ?_
  refine WL_call (vs := [.agg (List.toArray _)]) Try.func12 rfl rfl rfl (new_ok _ g2 none none 0 0 g2_ok (Cells.nil _ _) (Cells.nil _ _)) ?_
  rintro _ w ⟨d, b, rfl, hf, hok, hfr⟩
  refine ⟨_, rfl, ?_⟩
  replace H := H.new hf hok hfr
  have hpl : (newD g2).pl = 2 := by decide
  have hmv : (newD g2).moves = 3 := by decide
  have hnl : ∀ k, (newD g2).l k = none := fun k => rfl
  refine WL_x (x_assign (v := .pointer _) rfl) ?_
  refine WL_nil ?_
  refine thenE_normal ?_
  refine WC_seq ?_
  refine WC_region ?_
  refine WL_x (x_move (v := .pointer _) rfl) ?_
  refine WL_x (x_move (v := .int .i64 _) rfl) ?_
  refine WL_x (x_move (v := .int .u32 _) rfl) ?_
  refine WL_x (x_move (v := .int .u32 _) rfl) ?_
  refine WL_call (vs := [.pointer _, .int .i64 _, .int .u32 _, .int .u32 _]) Try.func13 rfl rfl rfl (put_ok _ d b _ player tick move (H.ok _ List.mem_cons_self) (newD_ok _ g2_ok) hp ht) ?_
  rintro _ w ⟨rfl, hf, hok⟩
  refine ⟨_, rfl, ?_⟩
  replace H := H.turn .zero hf (fun _ h => .inl h) hok (fun _ h => .inl h)
  refine WL_x (x_assign (v := .int .i64 _) rfl) ?_
  refine WL_nil ?_
  refine thenE_normal ?_
  refine WC_seq ?_
  refine WC_block ?_
  refine WC_seq ?_
  refine WC_region ?_
  refine WL_x (x_move (v := .int .i64 _) rfl) ?_
  refine WL_x (x_binop rfl rfl (r_lss _ _ _ _)) ?_
  refine WL_x (x_move (v := .bool _) rfl) ?_
  first | refine WL_cased (t := 21) rfl (fun h21 => ?_) (fun h21 => ?_) | refine WL_casen (t := 21) rfl (fun h21 => ?_) (fun h21 => ?_) | refine WL_case (t := 21) rfl (fun h21 => ?_) (fun h21 => ?_)
  · have he : putE (newD g2) player tick move = 3 := by unfold putE; rw [if_pos (by omega)]
    rw [putD_not (by rw [he]; decide)] at H
    have hno := heldL_none hnl player
    rw [he]
    refine WL_guard_no rfl rfl rfl ?_
    refine WL_guard_no rfl rfl rfl ?_
    refine WL_x (x_pick (v := .bool _) rfl rfl) ?_
    refine WL_x (x_assign (v := .bool _) rfl) ?_
    refine WL_nil ?_
    refine thenE_normal ?_
    refine WC_yes rfl ?_
    refine WC_seq ?_
    refine WC_region ?_
    refine WL_x (x_move (v := .int .i64 _) rfl) ?_
    refine WL_x (x_binop rfl rfl (r_eql _ _ _ _)) ?_
    refine WL_x (x_move (v := .bool _) rfl) ?_
    refine WL_guard_yes rfl rfl rfl ?_
    refine WL_x (x_move (v := .pointer _) rfl) ?_
    refine WL_guard_yes rfl rfl rfl ?_
    refine WL_x (x_move (v := .int .i64 _) rfl) ?_
    refine WL_guard_yes rfl rfl rfl ?_
    refine WL_call (vs := [.pointer _, .int .i64 _]) Try.func17 rfl rfl rfl (held_ok _ d b _ player (H.ok _ List.mem_cons_self) (newD_inv _)) ?_
    rintro _ w ⟨A1, c1, rfl, hf, hok, hokr, hfr⟩
    rw [hno, List.length_nil]
    refine ⟨_, rfl, ?_⟩
    replace H := H.turn .zero hf (fun _ h => .inl h) hok (fun _ h => .inl h)
    refine WL_guard_yes rfl rfl rfl ?_
    refine WL_x (x_len Try.underlying33 rfl) ?_
    refine WL_guard_yes rfl rfl rfl ?_
    refine WL_x (x_binop rfl rfl (r_eql _ _ _ _)) ?_
    refine WL_x (x_pick (v := .bool _) rfl rfl) ?_
    refine WL_x (x_assign (v := .bool _) rfl) ?_
    refine WL_nil ?_
    refine thenE_normal ?_
    refine WC_ret ?_
    refine inBlockE_ret ?_
    refine thenE_ret ?_
    refine ends1 (v := .bool _) Try.results5 rfl ?_
    first
      | exact ⟨rfl, H.fr⟩
      | exact ⟨by rw [decide_eq_true hne1], H.fr⟩
  · refine WL_guard_yes rfl rfl rfl ?_
    refine WL_x (x_move (v := .int .i64 _) rfl) ?_
    refine WL_guard_yes rfl rfl rfl ?_
    refine WL_x (x_binop rfl rfl (r_gtr _ _ _ _)) ?_
    refine WL_x (x_pick (v := .bool _) rfl rfl) ?_
    refine WL_x (x_assign (v := .bool _) rfl) ?_
    refine WL_nil ?_
    refine thenE_normal ?_
    refine WC_ifd rfl (fun h18 => ?_) (fun h18 => ?_)
    · have he : putE (newD g2) player tick move = 3 := by unfold putE; rw [if_pos (by omega)]
      rw [putD_not (by rw [he]; decide)] at H
      have hno := heldL_none hnl player
      rw [he]
      refine WC_seq ?_
      refine WC_region ?_
      refine WL_x (x_move (v := .int .i64 _) rfl) ?_
      refine WL_x (x_binop rfl rfl (r_eql _ _ _ _)) ?_
      refine WL_x (x_move (v := .bool _) rfl) ?_
      refine WL_guard_yes rfl rfl rfl ?_
      refine WL_x (x_move (v := .pointer _) rfl) ?_
      refine WL_guard_yes rfl rfl rfl ?_
      refine WL_x (x_move (v := .int .i64 _) rfl) ?_
      refine WL_guard_yes rfl rfl rfl ?_
      refine WL_call (vs := [.pointer _, .int .i64 _]) Try.func17 rfl rfl rfl (held_ok _ d b _ player (H.ok _ List.mem_cons_self) (newD_inv _)) ?_
      rintro _ w ⟨A1, c1, rfl, hf, hok, hokr, hfr⟩
      rw [hno, List.length_nil]
      refine ⟨_, rfl, ?_⟩
      replace H := H.turn .zero hf (fun _ h => .inl h) hok (fun _ h => .inl h)
      refine WL_guard_yes rfl rfl rfl ?_
      refine WL_x (x_len Try.underlying33 rfl) ?_
      refine WL_guard_yes rfl rfl rfl ?_
      refine WL_x (x_binop rfl rfl (r_eql _ _ _ _)) ?_
      refine WL_x (x_pick (v := .bool _) rfl rfl) ?_
      refine WL_x (x_assign (v := .bool _) rfl) ?_
      refine WL_nil ?_
      refine thenE_normal ?_
      refine WC_ret ?_
      refine inBlockE_ret ?_
      refine thenE_ret ?_
      refine ends1 (v := .bool _) Try.results5 rfl ?_
      first
        | exact ⟨rfl, H.fr⟩
        | exact ⟨by rw [decide_eq_true hne1], H.fr⟩
    · refine WC_seq ?_
      refine WC_region ?_
      refine WL_x (x_move (v := .int .u32 _) rfl) ?_
      refine WL_x (x_binop rfl rfl (r_gtr _ _ _ _)) ?_
      refine WL_x (x_assign (v := .bool _) rfl) ?_
      refine WL_nil ?_
      refine thenE_normal ?_
      refine WC_ifd rfl (fun h34 => ?_) (fun h34 => ?_)
      · have he : putE (newD g2) player tick move = 1 := by unfold putE; rw [if_neg (by omega), if_pos (by omega)]
        rw [putD_not (by rw [he]; decide)] at H
        have hno := heldL_none hnl player
        rw [he]
        refine WC_seq ?_
        refine WC_region ?_
        refine WL_x (x_move (v := .int .i64 _) rfl) ?_
        refine WL_x (x_binop rfl rfl (r_eql _ _ _ _)) ?_
        refine WL_x (x_move (v := .bool _) rfl) ?_
        refine WL_guard_yes rfl rfl rfl ?_
        refine WL_x (x_move (v := .pointer _) rfl) ?_
        refine WL_guard_yes rfl rfl rfl ?_
        refine WL_x (x_move (v := .int .i64 _) rfl) ?_
        refine WL_guard_yes rfl rfl rfl ?_
        refine WL_call (vs := [.pointer _, .int .i64 _]) Try.func17 rfl rfl rfl (held_ok _ d b _ player (H.ok _ List.mem_cons_self) (newD_inv _)) ?_
        rintro _ w ⟨A1, c1, rfl, hf, hok, hokr, hfr⟩
        rw [hno, List.length_nil]
        refine ⟨_, rfl, ?_⟩
        replace H := H.turn .zero hf (fun _ h => .inl h) hok (fun _ h => .inl h)
        refine WL_guard_yes rfl rfl rfl ?_
        refine WL_x (x_len Try.underlying33 rfl) ?_
        refine WL_guard_yes rfl rfl rfl ?_
        refine WL_x (x_binop rfl rfl (r_eql _ _ _ _)) ?_
        refine WL_x (x_pick (v := .bool _) rfl rfl) ?_
        refine WL_x (x_assign (v := .bool _) rfl) ?_
        refine WL_nil ?_
        refine thenE_normal ?_
        refine WC_ret ?_
        refine inBlockE_ret ?_
        refine thenE_ret ?_
        refine ends1 (v := .bool _) Try.results5 rfl ?_
        first
          | exact ⟨rfl, H.fr⟩
          | exact ⟨by rw [decide_eq_true hne1], H.fr⟩
      · have hne3 : putE (newD g2) player tick move ≠ 3 := by unfold putE; rw [if_neg (by omega), if_neg (by omega)]; split; decide; split; decide; split; decide; decide
        have hne1 : putE (newD g2) player tick move ≠ 1 := by unfold putE; rw [if_neg (by omega), if_neg (by omega)]; split; decide; split; decide; split; decide; decide
        refine WC_skip ?_
        refine inBlockE_normal ?_
        refine thenE_normal ?_
        refine WC_seq ?_
        refine WC_region ?_
        refine WL_x (x_move (v := .int .i64 _) rfl) ?_
        refine WL_x (x_binop rfl rfl (r_neq _ _ _ _)) ?_
        refine WL_x (x_move (v := .bool _) rfl) ?_
        first | refine WL_cased (t := 48) rfl (fun h48 => ?_) (fun h48 => ?_) | refine WL_casen (t := 48) rfl (fun h48 => ?_) (fun h48 => ?_) | refine WL_case (t := 48) rfl (fun h48 => ?_) (fun h48 => ?_)
        · refine WL_guard_yes rfl rfl rfl ?_
          refine WL_x (x_move (v := .int .i64 _) rfl) ?_
          refine WL_guard_yes rfl rfl rfl ?_
          refine WL_x (x_binop rfl rfl (r_neq _ _ _ _)) ?_
          refine WL_x (x_pick (v := .bool _) rfl rfl) ?_
          refine WL_x (x_assign (v := .bool _) rfl) ?_
          refine WL_nil ?_
          refine thenE_normal ?_
          refine WC_ret ?_
          refine ends1 (v := .bool _) Try.results5 rfl ?_
          first
            | exact ⟨rfl, H.fr⟩
            | exact ⟨by rw [decide_eq_true hne1], H.fr⟩
        · exact absurd hne3 h48
end Go.Proofs.Ytecdgmdkepiopaa
