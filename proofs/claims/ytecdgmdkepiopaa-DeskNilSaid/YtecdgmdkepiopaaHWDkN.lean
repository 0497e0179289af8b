import Derived.Test.YtecdgmdkepiopaaHWDkW
set_option linter.unusedSimpArgs false
set_option linter.unusedVariables false
set_option linter.unusedSectionVars false
namespace Go.Proofs.Ytecdgmdkepiopaa
open Go Go.HW Go.RowKit
attribute [local irreducible] WL WC WG wpList Code.wp

theorem put_nil (W : World) (p t m : Int) : Calls Try.prog 13 #[.pointer none, .int .i64 p, .int .u32 t, .int .u32 m] W fun e w' => e = .returned (.int .i64 3) ∧ Fr [] W w' := by
  have H : St W [] [] [] W := St.start [] (by simp)
  refine calls_enter (N := 68) Try.func13 rfl Try.ntmps13 rfl ?_
  refine WC_seq ?_
  refine WC_region ?_
  refine WL_x (x_assign (v := (.int .i64 0)) rfl) ?_
  refine WL_nil ?_
  refine thenE_normal ?_
  refine WC_seq ?_
  refine WC_block ?_
  refine WC_seq ?_
  refine WC_region ?_
  refine WL_x (x_move (v := .pointer _) rfl) ?_
  refine WL_x (x_ptr_eql_nil Try.underlying30 rfl rfl) ?_
  refine WL_x (x_move (v := .bool _) rfl) ?_
  refine WL_guard_no rfl rfl rfl ?_
  refine WL_guard_no rfl rfl rfl ?_
  refine WL_x (x_pick (v := .bool _) rfl rfl) ?_
  refine WL_x (x_move (v := .bool _) rfl) ?_
  refine WL_guard_no rfl rfl rfl ?_
  refine WL_guard_no rfl rfl rfl ?_
  refine WL_guard_no rfl rfl rfl ?_
  refine WL_guard_no rfl rfl rfl ?_
  refine WL_guard_no rfl rfl rfl ?_
  refine WL_guard_no rfl rfl rfl ?_
  refine WL_x (x_pick (v := .bool _) rfl rfl) ?_
  refine WL_x (x_assign (v := .bool _) rfl) ?_
  refine WL_nil ?_
  refine thenE_normal ?_
  refine WC_yes rfl ?_
  refine WC_seq ?_
  refine WC_region ?_
  refine WL_x (x_assign (v := (.int .i64 3)) rfl) ?_
  refine WL_nil ?_
  refine thenE_normal ?_
  refine WC_ret ?_
  refine inBlockE_ret ?_
  refine thenE_ret ?_
  refine ends1 (v := .int .i64 _) Try.results13 rfl ?_
  exact ⟨rfl, H.fr⟩

theorem take_nil (W : World)  : Calls Try.prog 14 #[.pointer none] W fun e w' => e = .returned (.slice none 0 0) ∧ Fr [] W w' := by
  have H : St W [] [] [] W := St.start [] (by simp)
  refine calls_enter (N := 59) Try.func14 rfl Try.ntmps14 rfl ?_
  refine WC_seq ?_
  refine WC_region ?_
  refine WL_x (x_assign (v := (.slice none 0 0)) rfl) ?_
  refine WL_nil ?_
  refine thenE_normal ?_
  refine WC_seq ?_
  refine WC_seq ?_
  refine WC_region ?_
  refine WL_x (x_move (v := .pointer _) rfl) ?_
  refine WL_x (x_ptr_eql_nil Try.underlying30 rfl rfl) ?_
  refine WL_nil ?_
  refine thenE_normal ?_
  refine WC_yes rfl ?_
  refine WC_seq ?_
  refine WC_region ?_
  refine WL_x (x_assign (v := (.slice none 0 0)) rfl) ?_
  refine WL_nil ?_
  refine thenE_normal ?_
  refine WC_ret ?_
  refine thenE_ret ?_
  refine ends1 (v := .slice _ _ _) Try.results14 rfl ?_
  exact ⟨rfl, H.fr⟩

theorem held_nil (W : World) (p : Int) : Calls Try.prog 17 #[.pointer none, .int .i64 p] W fun e w' => e = .returned (.slice none 0 0) ∧ Fr [] W w' := by
  have H : St W [] [] [] W := St.start [] (by simp)
  refine calls_enter (N := 30) Try.func17 rfl Try.ntmps17 rfl ?_
  refine WC_seq ?_
  refine WC_region ?_
  refine WL_x (x_assign (v := (.slice none 0 0)) rfl) ?_
  refine WL_nil ?_
  refine thenE_normal ?_
  refine WC_seq ?_
  refine WC_region ?_
  refine WL_x (x_assign (v := (.slice none 0 0)) rfl) ?_
  refine WL_nil ?_
  refine thenE_normal ?_
  refine WC_seq ?_
  refine WC_seq ?_
  refine WC_region ?_
  refine WL_x (x_move (v := .pointer _) rfl) ?_
  refine WL_x (x_ptr_eql_nil Try.underlying30 rfl rfl) ?_
  refine WL_nil ?_
  refine thenE_normal ?_
  refine WC_yes rfl ?_
  refine WC_seq ?_
  refine WC_region ?_
  refine WL_x (x_assign (v := (.slice none 0 0)) rfl) ?_
  refine WL_nil ?_
  refine thenE_normal ?_
  refine WC_ret ?_
  refine thenE_ret ?_
  refine ends1 (v := .slice _ _ _) Try.results17 rfl ?_
  exact ⟨rfl, H.fr⟩

theorem tick_nil (W : World)  : Calls Try.prog 16 #[.pointer none] W fun e w' => e = .returned (.int .u32 0) ∧ Fr [] W w' := by
  have H : St W [] [] [] W := St.start [] (by simp)
  refine calls_enter (N := 9) Try.func16 rfl Try.ntmps16 rfl ?_
  refine WC_seq ?_
  refine WC_region ?_
  refine WL_x (x_assign (v := (.int .u32 0)) rfl) ?_
  refine WL_nil ?_
  refine thenE_normal ?_
  refine WC_seq ?_
  refine WC_seq ?_
  refine WC_region ?_
  refine WL_x (x_move (v := .pointer _) rfl) ?_
  refine WL_x (x_ptr_eql_nil Try.underlying30 rfl rfl) ?_
  refine WL_nil ?_
  refine thenE_normal ?_
  refine WC_yes rfl ?_
  refine WC_seq ?_
  refine WC_region ?_
  refine WL_x (x_assign (v := (.int .u32 0)) rfl) ?_
  refine WL_nil ?_
  refine thenE_normal ?_
  refine WC_ret ?_
  refine thenE_ret ?_
  refine ends1 (v := .int .u32 _) Try.results16 rfl ?_
  exact ⟨rfl, H.fr⟩

theorem copy_nil (W : World)  : Calls Try.prog 15 #[.pointer none] W fun e w' => e = .returned (.pointer none) ∧ Fr [] W w' := by
  have H : St W [] [] [] W := St.start [] (by simp)
  refine calls_enter (N := 15) Try.func15 rfl Try.ntmps15 rfl ?_
  refine WC_seq ?_
  refine WC_region ?_
  refine WL_x (x_assign (v := (.pointer none)) rfl) ?_
  refine WL_nil ?_
  refine thenE_normal ?_
  refine WC_seq ?_
  refine WC_seq ?_
  refine WC_region ?_
  refine WL_x (x_move (v := .pointer _) rfl) ?_
  refine WL_x (x_ptr_eql_nil Try.underlying30 rfl rfl) ?_
  refine WL_nil ?_
  refine thenE_normal ?_
  refine WC_yes rfl ?_
  refine WC_seq ?_
  refine WC_region ?_
  refine WL_x (x_assign (v := (.pointer none)) rfl) ?_
  refine WL_nil ?_
  refine thenE_normal ?_
  refine WC_ret ?_
  refine thenE_ret ?_
  refine ends1 (v := .pointer _) Try.results15 rfl ?_
  exact ⟨rfl, H.fr⟩

theorem drop_nil (W : World) (p : Int) : Calls Try.prog 18 #[.pointer none, .int .i64 p] W fun e w' => e = .returned (.int .i64 0) ∧ Fr [] W w' := by
  have H : St W [] [] [] W := St.start [] (by simp)
  refine calls_enter (N := 27) Try.func18 rfl Try.ntmps18 rfl ?_
  refine WC_seq ?_
  refine WC_region ?_
  refine WL_x (x_assign (v := (.int .i64 0)) rfl) ?_
  refine WL_nil ?_
  refine thenE_normal ?_
  refine WC_seq ?_
  refine WC_region ?_
  refine WL_x (x_move (v := .pointer _) rfl) ?_
  refine WL_x (x_move (v := .int .i64 _) rfl) ?_
  refine WL_call (vs := [.pointer _, .int .i64 _]) Try.func17 rfl rfl rfl (held_nil _ _) ?_
  rintro _ w ⟨rfl, hf⟩
  refine ⟨_, rfl, ?_⟩
  replace H := H.quiet hf
  refine WL_x (x_assign (v := .slice _ _ _) rfl) ?_
  refine WL_nil ?_
  refine thenE_normal ?_
  refine WC_seq ?_
  refine WC_seq ?_
  refine WC_region ?_
  refine WL_x (x_move (v := .slice _ _ _) rfl) ?_
  refine WL_x (x_len Try.underlying33 rfl) ?_
  refine WL_x (x_move (v := (.int .i64 0)) rfl) ?_
  refine WL_nil ?_
  refine thenE_normal ?_
  refine WC_block ?_
  refine WC_while (fun (_ : Unit) f w' => f 13 = .int .i64 0 ∧ f 12 = .int .i64 0 ∧ f 5 = .slice none 0 0 ∧ St W [] [] [] w') (fun _ => 0) (s0 := ()) ?_ ?_
  · exact ⟨rfl, rfl, rfl, H⟩
  · clear H
    rintro _ f w ⟨h13, h12, h5, H⟩
    rw [← upd_self h13, ← upd_self h12, ← upd_self h5]
    refine WC_seq ?_
    refine WC_region ?_
    refine WL_x (x_binop rfl rfl (r_lss _ _ _ _)) ?_
    refine WL_nil ?_
    refine thenE_normal ?_
    refine WC_seq ?_
    refine WC_no rfl ?_
    refine WC_exit ?_
    refine thenE_exit ?_
    refine thenE_exit ?_
    refine inBlockE_exit ?_
    refine thenE_normal ?_
    refine WC_seq ?_
    refine WC_region ?_
    refine WL_x (x_move (v := .slice _ _ _) rfl) ?_
    refine WL_x (x_len Try.underlying33 rfl) ?_
    refine WL_x (x_assign (v := .int .i64 _) rfl) ?_
    refine WL_nil ?_
    refine thenE_normal ?_
    refine WC_ret ?_
    refine ends1 (v := .int .i64 _) Try.results18 rfl ?_
    exact ⟨rfl, H.fr⟩

theorem nil_ok (W : World) (p t m : Int) : Calls Try.prog 8 #[.int .i64 p, .int .u32 t, .int .u32 m] W fun e w' => e = .returned (.bool true) ∧ Fr [] W w' := by
  have H : St W [] [] [] W := St.start [] (by simp)
  refine calls_enter (N := 40) Try.func8 rfl Try.ntmps8 rfl ?_
  refine WC_seq ?_
  refine WC_region ?_
  refine WL_x (x_assign (v := (.bool false)) rfl) ?_
  refine WL_nil ?_
  refine thenE_normal ?_
  refine WC_seq ?_
  refine WC_seq ?_
  refine WC_region ?_
  refine WL_call (vs := []) Try.func9 rfl rfl rfl (awake_ok _) ?_
  rintro _ w ⟨rfl, hf⟩
  refine ⟨_, rfl, ?_⟩
  replace H := H.quiet hf
  refine WL_x (x_not rfl) ?_
  refine WL_nil ?_
  refine thenE_normal ?_
  refine WC_no rfl ?_
  refine WC_skip ?_
  refine thenE_normal ?_
  refine WC_seq ?_
  refine WC_region ?_
  refine WL_x (x_assign (v := (.pointer none)) rfl) ?_
  refine WL_nil ?_
  refine thenE_normal ?_
  refine WC_seq ?_
  refine WC_region ?_
  refine WL_x (x_move (v := .pointer _) rfl) ?_
  refine WL_x (x_move (v := .int .i64 _) rfl) ?_
  refine WL_x (x_move (v := .int .u32 _) rfl) ?_
  refine WL_x (x_move (v := .int .u32 _) rfl) ?_
  refine WL_call (vs := [.pointer _, .int .i64 _, .int .u32 _, .int .u32 _]) Try.func13 rfl rfl rfl (put_nil _ _ _ _) ?_
  rintro _ w ⟨rfl, hf⟩
  refine ⟨_, rfl, ?_⟩
  replace H := H.quiet hf
  refine WL_x (x_binop rfl rfl (r_eql _ _ _ _)) ?_
  refine WL_x (x_move (v := .bool _) rfl) ?_
  refine WL_guard_yes rfl rfl rfl ?_
  refine WL_x (x_move (v := .pointer _) rfl) ?_
  refine WL_guard_yes rfl rfl rfl ?_
  refine WL_call (vs := [.pointer _]) Try.func14 rfl rfl rfl (take_nil _) ?_
  rintro _ w ⟨rfl, hf⟩
  refine ⟨_, rfl, ?_⟩
  replace H := H.quiet hf
  refine WL_guard_yes rfl rfl rfl ?_
  refine WL_x (x_len Try.underlying33 rfl) ?_
  refine WL_guard_yes rfl rfl rfl ?_
  refine WL_x (x_move (v := .pointer _) rfl) ?_
  refine WL_guard_yes rfl rfl rfl ?_
  refine WL_x (x_move (v := .int .i64 _) rfl) ?_
  refine WL_guard_yes rfl rfl rfl ?_
  refine WL_call (vs := [.pointer _, .int .i64 _]) Try.func17 rfl rfl rfl (held_nil _ _) ?_
  rintro _ w ⟨rfl, hf⟩
  refine ⟨_, rfl, ?_⟩
  replace H := H.quiet hf
  refine WL_guard_yes rfl rfl rfl ?_
  refine WL_x (x_len Try.underlying33 rfl) ?_
  refine WL_guard_yes rfl rfl rfl ?_
  refine WL_x (x_binop rfl rfl (r_add_in (i64_in (by omega) (by omega)))) ?_
  refine WL_guard_yes rfl rfl rfl ?_
  refine WL_x (x_move (v := .pointer _) rfl) ?_
  refine WL_guard_yes rfl rfl rfl ?_
  refine WL_x (x_move (v := .int .i64 _) rfl) ?_
  refine WL_guard_yes rfl rfl rfl ?_
  refine WL_call (vs := [.pointer _, .int .i64 _]) Try.func18 rfl rfl rfl (drop_nil _ _) ?_
  rintro _ w ⟨rfl, hf⟩
  refine ⟨_, rfl, ?_⟩
  replace H := H.quiet hf
  refine WL_guard_yes rfl rfl rfl ?_
  refine WL_x (x_binop rfl rfl (r_add_in (i64_in (by omega) (by omega)))) ?_
  refine WL_guard_yes rfl rfl rfl ?_
  refine WL_x (x_move (v := .pointer _) rfl) ?_
  refine WL_guard_yes rfl rfl rfl ?_
  refine WL_call (vs := [.pointer _]) Try.func16 rfl rfl rfl (tick_nil _) ?_
  rintro _ w ⟨rfl, hf⟩
  refine ⟨_, rfl, ?_⟩
  replace H := H.quiet hf
  refine WL_guard_yes rfl rfl rfl ?_
  refine WL_x (x_convert Try.underlying22 Try.underlying3 rfl (i64_in (by omega) (by omega))) ?_
  refine WL_guard_yes rfl rfl rfl ?_
  refine WL_x (x_binop rfl rfl (r_add_in (i64_in (by omega) (by omega)))) ?_
  refine WL_guard_yes rfl rfl rfl ?_
  refine WL_x (x_binop rfl rfl (r_eql _ _ _ _)) ?_
  refine WL_x (x_pick (v := .bool _) rfl rfl) ?_
  refine WL_x (x_move (v := .bool _) rfl) ?_
  refine WL_guard_yes rfl rfl rfl ?_
  refine WL_x (x_move (v := .pointer _) rfl) ?_
  refine WL_guard_yes rfl rfl rfl ?_
  refine WL_call (vs := [.pointer _]) Try.func15 rfl rfl rfl (copy_nil _) ?_
  rintro _ w ⟨rfl, hf⟩
  refine ⟨_, rfl, ?_⟩
  replace H := H.quiet hf
  refine WL_guard_yes rfl rfl rfl ?_
  refine WL_x (x_ptr_eql_nil Try.underlying30 rfl rfl) ?_
  refine WL_x (x_pick (v := .bool _) rfl rfl) ?_
  refine WL_x (x_assign (v := .bool _) rfl) ?_
  refine WL_nil ?_
  refine thenE_normal ?_
  refine WC_ret ?_
  refine ends1 (v := .bool _) Try.results8 rfl ?_
  exact ⟨rfl, H.fr⟩
end Go.Proofs.Ytecdgmdkepiopaa
