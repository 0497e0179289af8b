import Derived.Test.YtjagiknmaoilhaaHWS4
import Derived.Test.YtjagiknmaoilhaaHWMap
import Derived.Test.YtjagiknmaoilhaaHWOpen
import Derived.Test.YtjagiknmaoilhaaHWSort2
import Derived.Test.YtjagiknmaoilhaaProg
import Derived.KernelRfl
set_option linter.unusedSimpArgs false
set_option linter.unusedVariables false
set_option linter.unusedSectionVars false
namespace Go.Proofs.Ytjagiknmaoilhaa
open Go Go.HW Go.RowKit
attribute [local irreducible] WL WC WG wpList Code.wp

set_option maxHeartbeats 4000000 in
theorem pdq_i32 : ∀ (m : Nat) (W : World) (d : Array Int) (A : Option Addr) (c n : Nat) (h : (row A c 21 1 n (nums .i32 d.toList)).ok W) (hM : d.toList.length = n) (hsz : n ≤ 2305843009213693952) (a b : Nat) (lim : Int) (hm : b - a = m) (hab : a ≤ b) (hb : b ≤ n) (hB : Go.Sort.Below Go.Sort.ltInt a b d),
    Calls Try.prog 13 #[.slice A n c, .int .i64 a, .int .i64 b, .int .i64 lim] W fun e w' => ∃ D : Array Int, e = .returned (.tuple #[]) ∧ Fr (row A c 21 1 n (nums .i32 d.toList)).fp W w' ∧ (row A c 21 1 n (nums .i32 D.toList)).ok w' ∧ Go.Sort.PermIn a b d D ∧ Go.Sort.SortedIn Go.Sort.ltInt a b D := by
  intro m
  induction m using Nat.strongRecOn with
  | _ m ih =>
  intro W d A c n h hM hsz a b lim hm hab hb hB
  subst hm
  have hlen0 := (owns_len h.r)
  unfold maxLen at hlen0
  have H : St W (row A c 21 1 n (nums .i32 d.toList)).fp [row A c 21 1 n (nums .i32 d.toList)] [] W := St.one h
  refine calls_enter (N := 134) Try.func13 rfl Try.ntmps13 rfl ?_
  refine WC_seq ?_
  refine WC_region ?_
  refine WL_x (x_assign (v := (.bool true)) rfl) ?_
  refine WL_nil ?_
  refine thenE_normal ?_
  refine WC_seq ?_
  refine WC_region ?_
  refine WL_x (x_assign (v := (.bool true)) rfl) ?_
  refine WL_nil ?_
  refine thenE_normal ?_
  refine WC_block ?_
  refine WC_while (fun (s : (Nat × Nat × Array Int) × Bool × Bool × Int) f w' => a ≤ s.1.1 ∧ s.1.1 ≤ s.1.2.1 ∧ s.1.2.1 ≤ b ∧ s.1.2.2.toList.length = n ∧ Go.Sort.Below Go.Sort.ltInt s.1.1 s.1.2.1 s.1.2.2 ∧ Glue a b d s.1.1 s.1.2.1 s.1.2.2 ∧ f 3 = .int .i64 s.2.2.2 ∧ f 0 = .slice A n c ∧ f 1 = .int .i64 s.1.1 ∧ f 2 = .int .i64 s.1.2.1 ∧ f 8 = .bool s.2.1 ∧ f 9 = .bool s.2.2.1 ∧ St W (row A c 21 1 n (nums .i32 d.toList)).fp [row A c 21 1 n (nums .i32 s.1.2.2.toList)] [] w') (fun s => s.1.2.1 - s.1.1) (s0 := ((a, b, d), true, true, lim)) ?_ ?_
  · exact ⟨Nat.le_refl _, hab, Nat.le_refl _, hM, hB, fun D h1 h2 => ⟨h1, h2⟩, rfl, rfl, rfl, rfl, rfl, rfl, H⟩
  · clear H hM hB
    rintro ⟨⟨a0, b0, M⟩, wb, wp, lim⟩ f w ⟨ha0, hab0, hb0, hM, hB, hG, h3, h0, h1, h2, h8, h9, H⟩
    simp only at ha0 hab0 hb0 hM hB hG h3 h0 h1 h2 h8 h9 H
    rw [← upd_self h3, ← upd_self h0, ← upd_self h1, ← upd_self h2, ← upd_self h8, ← upd_self h9]
    have hs := size_of hM
    refine WC_block ?_
    refine WC_seq ?_
    refine WC_region ?_
    refine WL_x (x_move (v := .int .i64 _) rfl) ?_
    refine WL_x (x_move (v := .int .i64 _) rfl) ?_
    refine WL_x (x_binop rfl rfl (r_sub_in (i64_in (by omega) (by omega)))) ?_
    refine WL_x (x_assign (v := .int .i64 _) rfl) ?_
    refine WL_nil ?_
    refine thenE_normal ?_
    refine WC_seq ?_
    refine WC_seq ?_
    refine WC_region ?_
    refine WL_x (x_move (v := .int .i64 _) rfl) ?_
    refine WL_x (x_binop rfl rfl (r_leq _ _ _ _)) ?_
    refine WL_nil ?_
    refine thenE_normal ?_
    refine WC_ifd rfl (fun h23 => ?_) (fun h23 => ?_)
    · refine WC_seq ?_
      refine WC_region ?_
      refine WL_x (x_move (v := .slice _ _ _) rfl) ?_
      refine WL_x (x_move (v := .int .i64 _) rfl) ?_
      refine WL_x (x_move (v := .int .i64 _) rfl) ?_
      refine WL_call (vs := [.slice _ _ _, .int .i64 _, .int .i64 _]) Try.func17 rfl rfl rfl (insS_i32 _ M A c n (H.ok _ List.mem_cons_self) hM hsz a0 b0 hab0 (by omega)) ?_
      rintro _ w ⟨rfl, hf, hok⟩
      refine ⟨_, rfl, ?_⟩
      replace H := H.turn .zero hf (fun _ h => .inl h) hok (fun _ h => .inl h)
      have hgood := insS_good M a0 b0 hab0 (by omega)
      have hD := hG _ hgood.1 hgood.2
      refine WL_nil ?_
      refine thenE_normal ?_
      refine WC_ret ?_
      refine thenE_ret ?_
      refine inBlockE_ret ?_
      refine thenE_ret ?_
      refine inBlockE_ret ?_
      refine ends0 Try.results13 ?_
      exact ⟨_, rfl, H.fr, H.ok _ List.mem_cons_self, hD.1, hD.2⟩
    · refine WC_skip ?_
      refine thenE_normal ?_
      refine WC_seq ?_
      refine WC_seq ?_
      refine WC_region ?_
      refine WL_x (x_move (v := .int .i64 _) rfl) ?_
      refine WL_x (x_binop rfl rfl (r_eql _ _ _ _)) ?_
      refine WL_nil ?_
      refine thenE_normal ?_
      refine WC_ifd rfl (fun h29 => ?_) (fun h29 => ?_)
      · refine WC_seq ?_
        refine WC_region ?_
        refine WL_x (x_move (v := .slice _ _ _) rfl) ?_
        refine WL_x (x_move (v := .int .i64 _) rfl) ?_
        refine WL_x (x_move (v := .int .i64 _) rfl) ?_
        refine WL_call (vs := [.slice _ _ _, .int .i64 _, .int .i64 _]) Try.func18 rfl rfl rfl (heap_i32 _ M A c n (H.ok _ List.mem_cons_self) hM hsz a0 b0 hab0 (by omega)) ?_
        rintro _ w ⟨rfl, hf, hok⟩
        refine ⟨_, rfl, ?_⟩
        replace H := H.turn .zero hf (fun _ h => .inl h) hok (fun _ h => .inl h)
        have hgood := heap_good M a0 b0 hab0 (by omega)
        have hD := hG _ hgood.1 hgood.2
        refine WL_nil ?_
        refine thenE_normal ?_
        refine WC_ret ?_
        refine thenE_ret ?_
        refine inBlockE_ret ?_
        refine thenE_ret ?_
        refine inBlockE_ret ?_
        refine ends0 Try.results13 ?_
        exact ⟨_, rfl, H.fr, H.ok _ List.mem_cons_self, hD.1, hD.2⟩
      · refine WC_skip ?_
        refine thenE_normal ?_
        refine WC_cut (fun (s : Array Int × Int) f w' => s.1.toList.length = n ∧ Go.Sort.PermIn a0 b0 M s.1 ∧ f 0 = .slice A n c ∧ f 1 = .int .i64 a0 ∧ f 2 = .int .i64 b0 ∧ f 8 = .bool wb ∧ f 9 = .bool wp ∧ f 3 = .int .i64 s.2 ∧ f 10 = .int .i64 ((b0 : Int) - a0) ∧ St W (row A c 21 1 n (nums .i32 d.toList)).fp [row A c 21 1 n (nums .i32 s.1.toList)] [] w') ?_ ?_
        · refine WC_seq ?_
          refine WC_region ?_
          refine WL_x (x_move (v := .bool _) rfl) ?_
          refine WL_x (x_not rfl) ?_
          refine WL_nil ?_
          refine thenE_normal ?_
          refine WC_if rfl (fun h35 => ?_) (fun h35 => ?_)
          · refine WC_seq ?_
            refine WC_region ?_
            refine WL_x (x_move (v := .slice _ _ _) rfl) ?_
            refine WL_x (x_move (v := .int .i64 _) rfl) ?_
            refine WL_x (x_move (v := .int .i64 _) rfl) ?_
            refine WL_call (vs := [.slice _ _ _, .int .i64 _, .int .i64 _]) Try.func19 rfl rfl rfl (brk_i32 _ M A c n (H.ok _ List.mem_cons_self) hM hsz a0 b0 hab0 (by omega)) ?_
            rintro _ w ⟨D1, rfl, hf, hD1, hP1, hok⟩
            refine ⟨_, rfl, ?_⟩
            replace H := H.turn .zero hf (fun _ h => .inl h) hok (fun _ h => .inl h)
            refine WL_nil ?_
            refine thenE_normal ?_
            refine WC_region ?_
            refine WL_x (x_move (v := .int .i64 _) rfl) ?_
            refine WL_x (x_binop rfl rfl (r_sub _ _ _ _)) ?_
            refine WL_x (x_assign (v := .int .i64 _) rfl) ?_
            refine WL_nil ?_
            refine thenE_normal ?_
            first
              | exact ⟨(D1, _), hD1, hP1, rfl, rfl, rfl, rfl, rfl, rfl, rfl, H⟩
              | exact ⟨(M, lim), hM, Go.Sort.permIn_refl _ _ _, rfl, rfl, rfl, rfl, rfl, rfl, rfl, H⟩
          · refine WC_skip ?_
            refine thenE_normal ?_
            first
              | exact ⟨(D1, _), hD1, hP1, rfl, rfl, rfl, rfl, rfl, rfl, rfl, H⟩
              | exact ⟨(M, lim), hM, Go.Sort.permIn_refl _ _ _, rfl, rfl, rfl, rfl, rfl, rfl, rfl, H⟩
        · clear H
          rintro ⟨M1, lim⟩ f w ⟨hM1, hP1, h0, h1, h2, h8, h9, h3, h10, H⟩
          simp only at hM1 hP1 h0 h1 h2 h8 h9 h3 h10 H
          rw [← upd_self h0, ← upd_self h1, ← upd_self h2, ← upd_self h8, ← upd_self h9, ← upd_self h3, ← upd_self h10]
          refine WC_seq ?_
          refine WC_region ?_
          refine WL_x (x_move (v := .slice _ _ _) rfl) ?_
          refine WL_x (x_move (v := .int .i64 _) rfl) ?_
          refine WL_x (x_move (v := .int .i64 _) rfl) ?_
          refine WL_call (vs := [.slice _ _ _, .int .i64 _, .int .i64 _]) Try.func20 rfl rfl rfl (choose_i32 _ M1 A c n (H.ocells .zero) hM1 hsz a0 b0 (by omega) (by omega)) ?_
          rintro _ w ⟨p, hint, rfl, hp1, hp2, hf⟩
          refine ⟨_, rfl, ?_⟩
          replace H := H.quiet hf
          refine WL_x (x_move (v := .tuple _) rfl) ?_
          refine WL_x (x_extract (v := .int .i64 _) rfl rfl) ?_
          refine WL_x (x_extract (v := .int .i64 _) rfl rfl) ?_
          refine WL_x (x_assign (v := .int .i64 _) rfl) ?_
          refine WL_x (x_assign (v := .int .i64 _) rfl) ?_
          refine WL_nil ?_
          refine thenE_normal ?_
          refine WC_cut (fun (s : Array Int × Nat × Int) f w' => s.1.toList.length = n ∧ Go.Sort.PermIn a0 b0 M s.1 ∧ a0 ≤ s.2.1 ∧ s.2.1 < b0 ∧ f 0 = .slice A n c ∧ f 1 = .int .i64 a0 ∧ f 2 = .int .i64 b0 ∧ f 8 = .bool wb ∧ f 9 = .bool wp ∧ f 3 = .int .i64 lim ∧ f 10 = .int .i64 ((b0 : Int) - a0) ∧ f 11 = .int .i64 s.2.1 ∧ f 12 = .int .i64 s.2.2 ∧ St W (row A c 21 1 n (nums .i32 d.toList)).fp [row A c 21 1 n (nums .i32 s.1.toList)] [] w') ?_ ?_
          · refine WC_seq ?_
            refine WC_region ?_
            refine WL_x (x_move (v := .int .i64 _) rfl) ?_
            refine WL_x (x_binop rfl rfl (r_eql _ _ _ _)) ?_
            refine WL_nil ?_
            refine thenE_normal ?_
            refine WC_ifd rfl (fun h50 => ?_) (fun h50 => ?_)
            · have hs1 := size_of hM1
              refine WC_seq ?_
              refine WC_region ?_
              refine WL_x (x_move (v := .slice _ _ _) rfl) ?_
              refine WL_x (x_move (v := .int .i64 _) rfl) ?_
              refine WL_x (x_move (v := .int .i64 _) rfl) ?_
              refine WL_call (vs := [.slice _ _ _, .int .i64 _, .int .i64 _]) Try.func21 rfl rfl rfl (rev_i32 _ M1 A c n (H.ok _ List.mem_cons_self) hM1 hsz a0 b0 (by omega) (by omega)) ?_
              rintro _ w ⟨rfl, hf, hok⟩
              refine ⟨_, rfl, ?_⟩
              replace H := H.turn .zero hf (fun _ h => .inl h) hok (fun _ h => .inl h)
              have hrv := rev_good M1 a0 b0 hab0 (by omega)
              have hP2 := Go.Sort.permIn_trans _ _ _ _ _ hP1 hrv
              have hM2 := (permIn_len hrv).trans hM1
              refine WL_nil ?_
              refine thenE_normal ?_
              refine WC_seq ?_
              refine WC_region ?_
              refine WL_x (x_move (v := .int .i64 _) rfl) ?_
              refine WL_x (x_binop rfl rfl (r_sub_in (i64_in (by omega) (by omega)))) ?_
              refine WL_x (x_move (v := .int .i64 _) rfl) ?_
              refine WL_x (x_move (v := .int .i64 _) rfl) ?_
              refine WL_x (x_binop rfl rfl (r_sub_in (i64_in (by omega) (by omega)))) ?_
              refine WL_x (x_binop rfl rfl (r_sub_in (i64_in (by omega) (by omega)))) ?_
              refine WL_x (x_assign (v := .int .i64 _) rfl) ?_
              refine WL_nil ?_
              refine thenE_normal ?_
              refine WC_region ?_
              refine WL_x (x_assign (v := (.int .i64 1)) rfl) ?_
              refine WL_nil ?_
              refine thenE_normal ?_
              first
                | exact ⟨(Go.Sort.reverseRange M1 a0 b0, b0 - 1 - (p - a0), 1), hM2, hP2, by simp only; omega, by simp only; omega, rfl, rfl, rfl, rfl, rfl, rfl, rfl, (congrArg (Value.int .i64) (by first | omega | rfl | (simp only; omega))), rfl, H⟩
                | exact ⟨(M1, p, hint), hM1, hP1, hp1, hp2, rfl, rfl, rfl, rfl, rfl, rfl, rfl, rfl, rfl, H⟩
            · refine WC_skip ?_
              refine thenE_normal ?_
              first
                | exact ⟨(Go.Sort.reverseRange M1 a0 b0, b0 - 1 - (p - a0), 1), hM2, hP2, by simp only; omega, by simp only; omega, rfl, rfl, rfl, rfl, rfl, rfl, rfl, (congrArg (Value.int .i64) (by first | omega | rfl | (simp only; omega))), rfl, H⟩
                | exact ⟨(M1, p, hint), hM1, hP1, hp1, hp2, rfl, rfl, rfl, rfl, rfl, rfl, rfl, rfl, rfl, H⟩
          · clear H hp1 hp2
            rintro ⟨M2, p, hint⟩ f w ⟨hM2, hP2, hp1, hp2, h0, h1, h2, h8, h9, h3, h10, h11, h12, H⟩
            simp only at hM2 hP2 hp1 hp2 h0 h1 h2 h8 h9 h3 h10 h11 h12 H
            rw [← upd_self h0, ← upd_self h1, ← upd_self h2, ← upd_self h8, ← upd_self h9, ← upd_self h3, ← upd_self h10, ← upd_self h11, ← upd_self h12]
            have hB2 := hB.perm (by omega) hP2
            have hs2 := size_of hM2
            refine WC_cut (fun (M3 : Array Int) f w' => M3.toList.length = n ∧ Go.Sort.PermIn a0 b0 M M3 ∧ f 0 = .slice A n c ∧ f 1 = .int .i64 a0 ∧ f 2 = .int .i64 b0 ∧ f 8 = .bool wb ∧ f 9 = .bool wp ∧ f 3 = .int .i64 lim ∧ f 10 = .int .i64 ((b0 : Int) - a0) ∧ f 11 = .int .i64 p ∧ St W (row A c 21 1 n (nums .i32 d.toList)).fp [row A c 21 1 n (nums .i32 M3.toList)] [] w') ?_ ?_
            · refine WC_seq ?_
              refine WC_region ?_
              refine WL_x (x_move (v := .bool _) rfl) ?_
              refine WL_x (x_move (v := .bool _) rfl) ?_
              first | refine WL_cased (t := 62) rfl (fun h62 => ?_) (fun h62 => ?_) | refine WL_casen (t := 62) rfl (fun h62 => ?_) (fun h62 => ?_) | refine WL_case (t := 62) rfl (fun h62 => ?_) (fun h62 => ?_)
              · refine WL_guard_yes rfl rfl rfl ?_
                refine WL_x (x_move (v := .bool _) rfl) ?_
                refine WL_x (x_pick (v := .bool _) rfl rfl) ?_
                refine WL_x (x_move (v := .bool _) rfl) ?_
                first | refine WL_cased (t := 65) rfl (fun h65 => ?_) (fun h65 => ?_) | refine WL_casen (t := 65) rfl (fun h65 => ?_) (fun h65 => ?_) | refine WL_case (t := 65) rfl (fun h65 => ?_) (fun h65 => ?_)
                · refine WL_guard_yes rfl rfl rfl ?_
                  refine WL_x (x_move (v := .int .i64 _) rfl) ?_
                  refine WL_guard_yes rfl rfl rfl ?_
                  refine WL_x (x_binop rfl rfl (r_eql _ _ _ _)) ?_
                  refine WL_x (x_pick (v := .bool _) rfl rfl) ?_
                  refine WL_nil ?_
                  refine thenE_normal ?_
                  first | refine WC_ifd rfl (fun h68 => ?_) (fun h68 => ?_) | refine WC_if rfl (fun h68 => ?_) (fun h68 => ?_)
                  · refine WC_seq ?_
                    refine WC_region ?_
                    refine WL_x (x_move (v := .slice _ _ _) rfl) ?_
                    refine WL_x (x_move (v := .int .i64 _) rfl) ?_
                    refine WL_x (x_move (v := .int .i64 _) rfl) ?_
                    refine WL_call (vs := [.slice _ _ _, .int .i64 _, .int .i64 _]) Try.func22 rfl rfl rfl (pins_i32 _ M2 A c n (H.ok _ List.mem_cons_self) hM2 hsz a0 b0 (by omega) (by omega)) ?_
                    rintro _ w ⟨rfl, hf, hok⟩
                    refine ⟨_, rfl, ?_⟩
                    replace H := H.turn .zero hf (fun _ h => .inl h) hok (fun _ h => .inl h)
                    have hpg := pins_good M2 a0 b0 (by omega) (by omega) hB2
                    have hP3 := Go.Sort.permIn_trans _ _ _ _ _ hP2 hpg.1
                    have hM3 := (permIn_len hpg.1).trans hM2
                    refine WL_nil ?_
                    refine thenE_normal ?_
                    refine WC_if rfl (fun h72 => ?_) (fun h72 => ?_)
                    · have hD := hG _ hP3 (hpg.2 h72)
                      refine WC_ret ?_
                      refine thenE_ret ?_
                      refine inBlockE_ret ?_
                      refine thenE_ret ?_
                      refine inBlockE_ret ?_
                      refine ends0 Try.results13 ?_
                      exact ⟨_, rfl, H.fr, H.ok _ List.mem_cons_self, hD.1, hD.2⟩
                    · refine WC_skip ?_
                      refine thenE_normal ?_
                      first
                        | exact ⟨_, hM3, hP3, rfl, rfl, rfl, rfl, rfl, rfl, rfl, rfl, H⟩
                        | exact ⟨M2, hM2, hP2, rfl, rfl, rfl, rfl, rfl, rfl, rfl, rfl, H⟩
                  · refine WC_skip ?_
                    refine thenE_normal ?_
                    first
                      | exact ⟨_, hM3, hP3, rfl, rfl, rfl, rfl, rfl, rfl, rfl, rfl, H⟩
                      | exact ⟨M2, hM2, hP2, rfl, rfl, rfl, rfl, rfl, rfl, rfl, rfl, H⟩
                · refine WL_guard_no rfl rfl rfl ?_
                  refine WL_guard_no rfl rfl rfl ?_
                  refine WL_x (x_pick (v := .bool _) rfl rfl) ?_
                  refine WL_nil ?_
                  refine thenE_normal ?_
                  refine WC_no rfl ?_
                  refine WC_skip ?_
                  refine thenE_normal ?_
                  first
                    | exact ⟨_, hM3, hP3, rfl, rfl, rfl, rfl, rfl, rfl, rfl, rfl, H⟩
                    | exact ⟨M2, hM2, hP2, rfl, rfl, rfl, rfl, rfl, rfl, rfl, rfl, H⟩
              · refine WL_guard_no rfl rfl rfl ?_
                refine WL_x (x_pick (v := .bool _) rfl rfl) ?_
                refine WL_x (x_move (v := .bool _) rfl) ?_
                refine WL_guard_no rfl rfl rfl ?_
                refine WL_guard_no rfl rfl rfl ?_
                refine WL_x (x_pick (v := .bool _) rfl rfl) ?_
                refine WL_nil ?_
                refine thenE_normal ?_
                refine WC_no rfl ?_
                refine WC_skip ?_
                refine thenE_normal ?_
                first
                  | exact ⟨_, hM3, hP3, rfl, rfl, rfl, rfl, rfl, rfl, rfl, rfl, H⟩
                  | exact ⟨M2, hM2, hP2, rfl, rfl, rfl, rfl, rfl, rfl, rfl, rfl, H⟩
            · clear H
              rintro M3 f w ⟨hM3, hP3, h0, h1, h2, h8, h9, h3, h10, h11, H⟩
              rw [← upd_self h0, ← upd_self h1, ← upd_self h2, ← upd_self h8, ← upd_self h9, ← upd_self h3, ← upd_self h10, ← upd_self h11]
              have hB3 := hB.perm (by omega) hP3
              have hs3 := size_of hM3
              have hG3 := hG.perm hP3
              refine WC_cut (fun (_ : Unit) f w' => f 0 = .slice A n c ∧ f 1 = .int .i64 a0 ∧ f 2 = .int .i64 b0 ∧ f 8 = .bool wb ∧ f 9 = .bool wp ∧ f 3 = .int .i64 lim ∧ f 10 = .int .i64 ((b0 : Int) - a0) ∧ f 11 = .int .i64 p ∧ St W (row A c 21 1 n (nums .i32 d.toList)).fp [row A c 21 1 n (nums .i32 M3.toList)] [] w') ?_ ?_
              · refine WC_seq ?_
                refine WC_drawH (m := 15) (listed := [false, false, false, false, false, false, false, false, false, false, false, false, false, false, false]) 15 (by kernel_rfl) rfl rfl H ?_
                intro w H
                refine WG_take (i := 0) (listed' := [true, false, false, false, false, false, false, false, false, false, false, false, false, false, false]) rfl (by kernel_rfl) (fun w H => x_move (v := .int .i64 _) rfl) H rfl ?_
                refine WG_take (i := 1) (listed' := [true, true, false, false, false, false, false, false, false, false, false, false, false, false, false]) rfl (by kernel_rfl) (fun w H => x_binop rfl rfl (r_gtr _ _ _ _)) H rfl ?_
                refine WG_take (i := 2) (listed' := [true, true, true, false, false, false, false, false, false, false, false, false, false, false, false]) rfl (by kernel_rfl) (fun w H => x_move (v := .bool _) rfl) H rfl ?_
                first | refine WG_cased (t := 75) rfl (fun h75 => ?_) (fun h75 => ?_) | refine WG_casen (t := 75) rfl (fun h75 => ?_) (fun h75 => ?_) | refine WG_case (t := 75) rfl (fun h75 => ?_) (fun h75 => ?_)
                · refine WG_takeG (i := 3) (listed' := [true, true, true, true, false, false, false, false, false, false, false, false, false, false, false]) rfl (by kernel_rfl) rfl rfl rfl (fun w H => x_move (v := .slice _ _ _) rfl) H rfl ?_
                  refine WG_takeG (i := 4) (listed' := [true, true, true, true, true, false, false, false, false, false, false, false, false, false, false]) rfl (by kernel_rfl) rfl rfl rfl (fun w H => x_move (v := .int .i64 _) rfl) H rfl ?_
                  refine WG_takeG (i := 5) (listed' := [true, true, true, true, true, true, false, false, false, false, false, false, false, false, false]) rfl (by kernel_rfl) rfl rfl rfl (fun w H => x_binop rfl rfl (r_sub_in (i64_in (by omega) (by omega)))) H rfl ?_
                  refine WG_takeG (i := 6) (listed' := [true, true, true, true, true, true, true, false, false, false, false, false, false, false, false]) rfl (by kernel_rfl) rfl rfl rfl (fun w H => x_indexAddr (s := 1) Try.underlying23 (by kernel_rfl) rfl rfl (by omega) (by omega) (by first | rfl | assumption | exact H.rsomen .zero (by omega) | exact H.rsomen (.succ .zero) (by omega) | exact H.rsomen (.succ (.succ .zero)) (by omega) | exact H.osomen .zero (by omega) | exact H.osomen (.succ .zero) (by omega) | exact H.osomen (.succ (.succ .zero)) (by omega)) rfl) H rfl ?_
                  first | refine WG_takeG (i := 7) (listed' := [true, true, true, true, true, true, true, true, false, false, false, false, false, false, false]) rfl (by kernel_rfl) rfl rfl rfl (fun w H => x_load (v := .int .i32 _) Try.underlying21 rfl rfl (H.cellAt .zero rfl)) H rfl ?_ | refine WG_takeG (i := 7) (listed' := [true, true, true, true, true, true, true, true, false, false, false, false, false, false, false]) rfl (by kernel_rfl) rfl rfl rfl (fun w H => x_load (v := .int .i32 _) Try.underlying21 rfl rfl (H.cellAt (.succ .zero) rfl)) H rfl ?_ | refine WG_takeG (i := 7) (listed' := [true, true, true, true, true, true, true, true, false, false, false, false, false, false, false]) rfl (by kernel_rfl) rfl rfl rfl (fun w H => x_load (v := .int .i32 _) Try.underlying21 rfl rfl (H.cellAt (.succ (.succ .zero)) rfl)) H rfl ?_ | refine WG_takeG (i := 7) (listed' := [true, true, true, true, true, true, true, true, false, false, false, false, false, false, false]) rfl (by kernel_rfl) rfl rfl rfl (fun w H => x_load (v := .int .i32 _) Try.underlying21 rfl rfl (H.cellAt (.succ (.succ (.succ .zero))) rfl)) H rfl ?_ | refine WG_takeG (i := 7) (listed' := [true, true, true, true, true, true, true, true, false, false, false, false, false, false, false]) rfl (by kernel_rfl) rfl rfl rfl (fun w H => x_load (v := .int .i32 _) Try.underlying21 rfl rfl (H.cellAt (.succ (.succ (.succ (.succ .zero)))) rfl)) H rfl ?_ | refine WG_takeG (i := 7) (listed' := [true, true, true, true, true, true, true, true, false, false, false, false, false, false, false]) rfl (by kernel_rfl) rfl rfl rfl (fun w H => x_load Try.underlying21 rfl rfl (H.rnum .zero (by omega) (by omega))) H rfl ?_ | refine WG_takeG (i := 7) (listed' := [true, true, true, true, true, true, true, true, false, false, false, false, false, false, false]) rfl (by kernel_rfl) rfl rfl rfl (fun w H => x_load Try.underlying21 rfl rfl (H.rnum (.succ .zero) (by omega) (by omega))) H rfl ?_ | refine WG_takeG (i := 7) (listed' := [true, true, true, true, true, true, true, true, false, false, false, false, false, false, false]) rfl (by kernel_rfl) rfl rfl rfl (fun w H => x_load Try.underlying21 rfl rfl (H.rnum (.succ (.succ .zero)) (by omega) (by omega))) H rfl ?_ | refine WG_takeG (i := 7) (listed' := [true, true, true, true, true, true, true, true, false, false, false, false, false, false, false]) rfl (by kernel_rfl) rfl rfl rfl (fun w H => x_load Try.underlying21 rfl rfl (H.onum .zero (by omega) (by omega))) H rfl ?_ | refine WG_takeG (i := 7) (listed' := [true, true, true, true, true, true, true, true, false, false, false, false, false, false, false]) rfl (by kernel_rfl) rfl rfl rfl (fun w H => x_load Try.underlying21 rfl rfl (H.onum (.succ .zero) (by omega) (by omega))) H rfl ?_ | refine WG_takeG (i := 7) (listed' := [true, true, true, true, true, true, true, true, false, false, false, false, false, false, false]) rfl (by kernel_rfl) rfl rfl rfl (fun w H => x_load Try.underlying21 rfl rfl (H.onum (.succ (.succ .zero)) (by omega) (by omega))) H rfl ?_
                  refine WG_takeG (i := 8) (listed' := [true, true, true, true, true, true, true, true, true, false, false, false, false, false, false]) rfl (by kernel_rfl) rfl rfl rfl (fun w H => x_move (v := .slice _ _ _) rfl) H rfl ?_
                  refine WG_takeG (i := 9) (listed' := [true, true, true, true, true, true, true, true, true, true, false, false, false, false, false]) rfl (by kernel_rfl) rfl rfl rfl (fun w H => x_move (v := .int .i64 _) rfl) H rfl ?_
                  refine WG_takeG (i := 10) (listed' := [true, true, true, true, true, true, true, true, true, true, true, false, false, false, false]) rfl (by kernel_rfl) rfl rfl rfl (fun w H => x_indexAddr (s := 1) Try.underlying23 (by kernel_rfl) rfl rfl (by omega) (by omega) (by first | rfl | assumption | exact H.rsomen .zero (by omega) | exact H.rsomen (.succ .zero) (by omega) | exact H.rsomen (.succ (.succ .zero)) (by omega) | exact H.osomen .zero (by omega) | exact H.osomen (.succ .zero) (by omega) | exact H.osomen (.succ (.succ .zero)) (by omega)) rfl) H rfl ?_
                  first | refine WG_takeG (i := 11) (listed' := [true, true, true, true, true, true, true, true, true, true, true, true, false, false, false]) rfl (by kernel_rfl) rfl rfl rfl (fun w H => x_load (v := .int .i32 _) Try.underlying21 rfl rfl (H.cellAt .zero rfl)) H rfl ?_ | refine WG_takeG (i := 11) (listed' := [true, true, true, true, true, true, true, true, true, true, true, true, false, false, false]) rfl (by kernel_rfl) rfl rfl rfl (fun w H => x_load (v := .int .i32 _) Try.underlying21 rfl rfl (H.cellAt (.succ .zero) rfl)) H rfl ?_ | refine WG_takeG (i := 11) (listed' := [true, true, true, true, true, true, true, true, true, true, true, true, false, false, false]) rfl (by kernel_rfl) rfl rfl rfl (fun w H => x_load (v := .int .i32 _) Try.underlying21 rfl rfl (H.cellAt (.succ (.succ .zero)) rfl)) H rfl ?_ | refine WG_takeG (i := 11) (listed' := [true, true, true, true, true, true, true, true, true, true, true, true, false, false, false]) rfl (by kernel_rfl) rfl rfl rfl (fun w H => x_load (v := .int .i32 _) Try.underlying21 rfl rfl (H.cellAt (.succ (.succ (.succ .zero))) rfl)) H rfl ?_ | refine WG_takeG (i := 11) (listed' := [true, true, true, true, true, true, true, true, true, true, true, true, false, false, false]) rfl (by kernel_rfl) rfl rfl rfl (fun w H => x_load (v := .int .i32 _) Try.underlying21 rfl rfl (H.cellAt (.succ (.succ (.succ (.succ .zero)))) rfl)) H rfl ?_ | refine WG_takeG (i := 11) (listed' := [true, true, true, true, true, true, true, true, true, true, true, true, false, false, false]) rfl (by kernel_rfl) rfl rfl rfl (fun w H => x_load Try.underlying21 rfl rfl (H.rnum .zero (by omega) (by omega))) H rfl ?_ | refine WG_takeG (i := 11) (listed' := [true, true, true, true, true, true, true, true, true, true, true, true, false, false, false]) rfl (by kernel_rfl) rfl rfl rfl (fun w H => x_load Try.underlying21 rfl rfl (H.rnum (.succ .zero) (by omega) (by omega))) H rfl ?_ | refine WG_takeG (i := 11) (listed' := [true, true, true, true, true, true, true, true, true, true, true, true, false, false, false]) rfl (by kernel_rfl) rfl rfl rfl (fun w H => x_load Try.underlying21 rfl rfl (H.rnum (.succ (.succ .zero)) (by omega) (by omega))) H rfl ?_ | refine WG_takeG (i := 11) (listed' := [true, true, true, true, true, true, true, true, true, true, true, true, false, false, false]) rfl (by kernel_rfl) rfl rfl rfl (fun w H => x_load Try.underlying21 rfl rfl (H.onum .zero (by omega) (by omega))) H rfl ?_ | refine WG_takeG (i := 11) (listed' := [true, true, true, true, true, true, true, true, true, true, true, true, false, false, false]) rfl (by kernel_rfl) rfl rfl rfl (fun w H => x_load Try.underlying21 rfl rfl (H.onum (.succ .zero) (by omega) (by omega))) H rfl ?_ | refine WG_takeG (i := 11) (listed' := [true, true, true, true, true, true, true, true, true, true, true, true, false, false, false]) rfl (by kernel_rfl) rfl rfl rfl (fun w H => x_load Try.underlying21 rfl rfl (H.onum (.succ (.succ .zero)) (by omega) (by omega))) H rfl ?_
                  refine WG_midG (i := 12) (listed' := [true, true, true, true, true, true, true, true, true, true, true, true, true, false, false]) rfl rfl rfl rfl rfl (by kernel_rfl) rfl rfl ?_
                  refine WL_guard_yes rfl rfl rfl ?_
                  refine WL_call (vs := [.int .i32 _, .int .i32 _]) Try.func23 rfl rfl rfl (less_i32 _ _ _) ?_
                  rintro _ w ⟨rfl, hf⟩
                  refine ⟨_, rfl, ?_⟩
                  replace H := H.quiet hf
                  refine WL_nil ?_
                  refine mid_mk H ?_
                  refine WG_takeG (i := 13) (listed' := [true, true, true, true, true, true, true, true, true, true, true, true, true, true, false]) rfl (by kernel_rfl) rfl rfl rfl (fun w H => x_not rfl) H rfl ?_
                  refine WG_take (i := 14) (listed' := [true, true, true, true, true, true, true, true, true, true, true, true, true, true, true]) rfl (by kernel_rfl) (fun w H => x_pick (v := .bool _) rfl rfl) H rfl ?_
                  refine WG_done (by kernel_rfl) ?_
                  refine thenE_normal ?_
                  refine WC_ifn rfl (fun h87 => ?_) (fun h87 => ?_)
                  · obtain ⟨g1, g2, g3, g4, g5⟩ := peq_good hG3 (by omega) hp1 hp2 (by omega) hB3 (lt_no h87 (by omega) (by omega))
                    refine WC_seq ?_
                    refine WC_region ?_
                    refine WL_x (x_move (v := .slice _ _ _) rfl) ?_
                    refine WL_x (x_move (v := .int .i64 _) rfl) ?_
                    refine WL_x (x_move (v := .int .i64 _) rfl) ?_
                    refine WL_x (x_move (v := .int .i64 _) rfl) ?_
                    refine WL_call (vs := [.slice _ _ _, .int .i64 _, .int .i64 _, .int .i64 _]) Try.func24 rfl rfl rfl (peq_i32 _ M3 A c n (H.ok _ List.mem_cons_self) hM3 hsz a0 b0 p hp1 hp2 (by omega)) ?_
                    rintro _ w ⟨rfl, hf, hok⟩
                    refine ⟨_, rfl, ?_⟩
                    replace H := H.turn .zero hf (fun _ h => .inl h) hok (fun _ h => .inl h)
                    refine WL_x (x_assign (v := .int .i64 _) rfl) ?_
                    refine WL_nil ?_
                    refine thenE_normal ?_
                    refine WC_seq ?_
                    refine WC_region ?_
                    refine WL_x (x_move (v := .int .i64 _) rfl) ?_
                    refine WL_x (x_assign (v := .int .i64 _) rfl) ?_
                    refine WL_nil ?_
                    refine thenE_normal ?_
                    refine WC_exit ?_
                    refine thenE_exit ?_
                    refine inBlockE_exit ?_
                    refine thenE_normal ?_
                    first
                      | exact ⟨((mid + 1, b0, L), _, _, _), ⟨by simp only; omega, by simp only; omega, by simp only; omega, hLl, q1, q2, rfl, rfl, (congrArg (Value.int .i64) (by first | omega | rfl | (simp only; omega))), rfl, rfl, rfl, H⟩, by simp only; omega⟩
                      | exact ⟨((a0, mid, L), _, _, _), ⟨by simp only; omega, by simp only; omega, by simp only; omega, hLl, q1, q2, rfl, rfl, rfl, (congrArg (Value.int .i64) (by first | omega | rfl | (simp only; omega))), rfl, rfl, H⟩, by simp only; omega⟩
                      | exact ⟨(((Go.Sort.partitionEqual Go.Sort.ltInt M3 a0 b0 p).1, b0, (Go.Sort.partitionEqual Go.Sort.ltInt M3 a0 b0 p).2), _, _, _), ⟨by simp only; omega, by simp only; omega, by simp only; omega, by simp; omega, g4, g5, rfl, rfl, rfl, rfl, rfl, rfl, H⟩, by simp only; omega⟩
                  · refine WC_skip ?_
                    refine thenE_normal ?_
                    exact ⟨(), rfl, rfl, rfl, rfl, rfl, rfl, rfl, rfl, H⟩
                · refine WG_skip (i := 3) (listed' := [true, true, true, true, false, false, false, false, false, false, false, false, false, false, false]) rfl (by kernel_rfl) rfl rfl rfl H rfl ?_
                  refine WG_skip (i := 4) (listed' := [true, true, true, true, true, false, false, false, false, false, false, false, false, false, false]) rfl (by kernel_rfl) rfl rfl rfl H rfl ?_
                  refine WG_skip (i := 5) (listed' := [true, true, true, true, true, true, false, false, false, false, false, false, false, false, false]) rfl (by kernel_rfl) rfl rfl rfl H rfl ?_
                  refine WG_skip (i := 6) (listed' := [true, true, true, true, true, true, true, false, false, false, false, false, false, false, false]) rfl (by kernel_rfl) rfl rfl rfl H rfl ?_
                  refine WG_skip (i := 7) (listed' := [true, true, true, true, true, true, true, true, false, false, false, false, false, false, false]) rfl (by kernel_rfl) rfl rfl rfl H rfl ?_
                  refine WG_skip (i := 8) (listed' := [true, true, true, true, true, true, true, true, true, false, false, false, false, false, false]) rfl (by kernel_rfl) rfl rfl rfl H rfl ?_
                  refine WG_skip (i := 9) (listed' := [true, true, true, true, true, true, true, true, true, true, false, false, false, false, false]) rfl (by kernel_rfl) rfl rfl rfl H rfl ?_
                  refine WG_skip (i := 10) (listed' := [true, true, true, true, true, true, true, true, true, true, true, false, false, false, false]) rfl (by kernel_rfl) rfl rfl rfl H rfl ?_
                  refine WG_skip (i := 11) (listed' := [true, true, true, true, true, true, true, true, true, true, true, true, false, false, false]) rfl (by kernel_rfl) rfl rfl rfl H rfl ?_
                  refine WG_skip (i := 12) (listed' := [true, true, true, true, true, true, true, true, true, true, true, true, true, false, false]) rfl (by kernel_rfl) rfl rfl rfl H rfl ?_
                  refine WG_skip (i := 13) (listed' := [true, true, true, true, true, true, true, true, true, true, true, true, true, true, false]) rfl (by kernel_rfl) rfl rfl rfl H rfl ?_
                  refine WG_take (i := 14) (listed' := [true, true, true, true, true, true, true, true, true, true, true, true, true, true, true]) rfl (by kernel_rfl) (fun w H => x_pick (v := .bool _) rfl rfl) H rfl ?_
                  refine WG_done (by kernel_rfl) ?_
                  refine thenE_normal ?_
                  refine WC_no rfl ?_
                  refine WC_skip ?_
                  refine thenE_normal ?_
                  exact ⟨(), rfl, rfl, rfl, rfl, rfl, rfl, rfl, rfl, H⟩
              · clear H
                rintro _ f w ⟨h0, h1, h2, h8, h9, h3, h10, h11, H⟩
                rw [← upd_self h0, ← upd_self h1, ← upd_self h2, ← upd_self h8, ← upd_self h9, ← upd_self h3, ← upd_self h10, ← upd_self h11]
                refine WC_seq ?_
                refine WC_region ?_
                refine WL_x (x_move (v := .slice _ _ _) rfl) ?_
                refine WL_x (x_move (v := .int .i64 _) rfl) ?_
                refine WL_x (x_move (v := .int .i64 _) rfl) ?_
                refine WL_x (x_move (v := .int .i64 _) rfl) ?_
                refine WL_call (vs := [.slice _ _ _, .int .i64 _, .int .i64 _, .int .i64 _]) Try.func25 rfl rfl rfl (part_i32 _ M3 A c n (H.ok _ List.mem_cons_self) hM3 hsz a0 b0 p hp1 hp2 (by omega)) ?_
                rintro _ w ⟨mid, ap, D4, hpt, rfl, hf, hok⟩
                refine ⟨_, rfl, ?_⟩
                replace H := H.turn .zero hf (fun _ h => .inl h) hok (fun _ h => .inl h)
                obtain ⟨mid2, ap2, D42, hpt2, g1, g2, g3, g4, g5, g6, g7⟩ := part_good hG3 hp1 hp2 (by omega) hB3
                rw [hpt] at hpt2
                obtain ⟨rfl, rfl, rfl⟩ : mid = mid2 ∧ ap = ap2 ∧ D4 = D42 := by simpa using hpt2
                refine WL_x (x_move (v := .tuple _) rfl) ?_
                refine WL_x (x_extract (v := .int .i64 _) rfl rfl) ?_
                refine WL_x (x_extract (v := .bool _) rfl rfl) ?_
                refine WL_x (x_assign (v := .int .i64 _) rfl) ?_
                refine WL_x (x_assign (v := .bool _) rfl) ?_
                refine WL_nil ?_
                refine thenE_normal ?_
                refine WC_seq ?_
                refine WC_region ?_
                refine WL_x (x_move (v := .bool _) rfl) ?_
                refine WL_x (x_assign (v := .bool _) rfl) ?_
                refine WL_nil ?_
                refine thenE_normal ?_
                refine WC_seq ?_
                refine WC_region ?_
                refine WL_x (x_move (v := .int .i64 _) rfl) ?_
                refine WL_x (x_move (v := .int .i64 _) rfl) ?_
                refine WL_x (x_binop rfl rfl (r_sub_in (i64_in (by omega) (by omega)))) ?_
                refine WL_x (x_move (v := .int .i64 _) rfl) ?_
                refine WL_x (x_move (v := .int .i64 _) rfl) ?_
                refine WL_x (x_binop rfl rfl (r_sub_in (i64_in (by omega) (by omega)))) ?_
                refine WL_x (x_assign (v := .int .i64 _) rfl) ?_
                refine WL_x (x_assign (v := .int .i64 _) rfl) ?_
                refine WL_nil ?_
                refine thenE_normal ?_
                refine WC_seq ?_
                refine WC_region ?_
                refine WL_x (x_move (v := .int .i64 _) rfl) ?_
                refine WL_x (x_binop rfl rfl (r_quo (by omega))) ?_
                refine WL_x (x_assign (v := .int .i64 _) rfl) ?_
                refine WL_nil ?_
                refine thenE_normal ?_
                refine WC_seq ?_
                refine WC_region ?_
                refine WL_x (x_move (v := .int .i64 _) rfl) ?_
                refine WL_x (x_move (v := .int .i64 _) rfl) ?_
                refine WL_x (x_binop rfl rfl (r_lss _ _ _ _)) ?_
                refine WL_nil ?_
                refine thenE_normal ?_
                refine WC_ifd rfl (fun h113 => ?_) (fun h113 => ?_)
                · refine WC_seq ?_
                  refine WC_region ?_
                  refine WL_x (x_move (v := .int .i64 _) rfl) ?_
                  refine WL_x (x_move (v := .int .i64 _) rfl) ?_
                  refine WL_x (x_binop rfl rfl (r_geq _ _ _ _)) ?_
                  refine WL_x (x_assign (v := .bool _) rfl) ?_
                  refine WL_nil ?_
                  refine thenE_normal ?_
                  refine WC_seq ?_
                  refine WC_region ?_
                  refine WL_x (x_move (v := .slice _ _ _) rfl) ?_
                  refine WL_x (x_move (v := .int .i64 _) rfl) ?_
                  refine WL_x (x_move (v := .int .i64 _) rfl) ?_
                  refine WL_x (x_move (v := .int .i64 _) rfl) ?_
                  refine WL_call (vs := [.slice _ _ _, .int .i64 _, .int .i64 _, .int .i64 _]) Try.func13 rfl rfl rfl (ih (mid - a0) (by omega) _ D4 A c n (H.ok _ List.mem_cons_self) (by simp; omega) hsz a0 mid _ rfl g1 (by omega) g4) ?_
                  rintro _ w ⟨L, rfl, hf, hok, hL1, hL2⟩
                  refine ⟨_, rfl, ?_⟩
                  replace H := H.turn .zero hf (fun _ h => .inl h) hok (fun _ h => .inl h)
                  obtain ⟨q1, q2⟩ := g6 L hL1 hL2
                  have hLl : L.toList.length = n := (permIn_len hL1).trans (by simp; omega)
                  refine WL_nil ?_
                  refine thenE_normal ?_
                  refine WC_region ?_
                  refine WL_x (x_move (v := .int .i64 _) rfl) ?_
                  refine WL_x (x_binop rfl rfl (r_add_in (i64_in (by omega) (by omega)))) ?_
                  refine WL_x (x_assign (v := .int .i64 _) rfl) ?_
                  refine WL_nil ?_
                  refine inBlockE_normal ?_
                  refine thenE_normal ?_
                  first
                    | exact ⟨((mid + 1, b0, L), _, _, _), ⟨by simp only; omega, by simp only; omega, by simp only; omega, hLl, q1, q2, rfl, rfl, (congrArg (Value.int .i64) (by first | omega | rfl | (simp only; omega))), rfl, rfl, rfl, H⟩, by simp only; omega⟩
                    | exact ⟨((a0, mid, L), _, _, _), ⟨by simp only; omega, by simp only; omega, by simp only; omega, hLl, q1, q2, rfl, rfl, rfl, (congrArg (Value.int .i64) (by first | omega | rfl | (simp only; omega))), rfl, rfl, H⟩, by simp only; omega⟩
                    | exact ⟨(((Go.Sort.partitionEqual Go.Sort.ltInt M3 a0 b0 p).1, b0, (Go.Sort.partitionEqual Go.Sort.ltInt M3 a0 b0 p).2), _, _, _), ⟨by simp only; omega, by simp only; omega, by simp only; omega, by simp; omega, g4, g5, rfl, rfl, rfl, rfl, rfl, rfl, H⟩, by simp only; omega⟩
                · refine WC_seq ?_
                  refine WC_region ?_
                  refine WL_x (x_move (v := .int .i64 _) rfl) ?_
                  refine WL_x (x_move (v := .int .i64 _) rfl) ?_
                  refine WL_x (x_binop rfl rfl (r_geq _ _ _ _)) ?_
                  refine WL_x (x_assign (v := .bool _) rfl) ?_
                  refine WL_nil ?_
                  refine thenE_normal ?_
                  refine WC_seq ?_
                  refine WC_region ?_
                  refine WL_x (x_move (v := .slice _ _ _) rfl) ?_
                  refine WL_x (x_move (v := .int .i64 _) rfl) ?_
                  refine WL_x (x_binop rfl rfl (r_add_in (i64_in (by omega) (by omega)))) ?_
                  refine WL_x (x_move (v := .int .i64 _) rfl) ?_
                  refine WL_x (x_move (v := .int .i64 _) rfl) ?_
                  refine WL_call (vs := [.slice _ _ _, .int .i64 _, .int .i64 _, .int .i64 _]) Try.func13 rfl rfl rfl (by rw [show ((mid : Int) + 1) = ((mid + 1 : Nat) : Int) by omega]; exact ih (b0 - (mid + 1)) (by omega) _ D4 A c n (H.ok _ List.mem_cons_self) (by simp; omega) hsz (mid + 1) b0 _ rfl (by omega) (by omega) g5) ?_
                  rintro _ w ⟨L, rfl, hf, hok, hL1, hL2⟩
                  refine ⟨_, rfl, ?_⟩
                  replace H := H.turn .zero hf (fun _ h => .inl h) hok (fun _ h => .inl h)
                  obtain ⟨q1, q2⟩ := g7 L hL1 hL2
                  have hLl : L.toList.length = n := (permIn_len hL1).trans (by simp; omega)
                  refine WL_nil ?_
                  refine thenE_normal ?_
                  refine WC_region ?_
                  refine WL_x (x_move (v := .int .i64 _) rfl) ?_
                  refine WL_x (x_assign (v := .int .i64 _) rfl) ?_
                  refine WL_nil ?_
                  refine inBlockE_normal ?_
                  refine thenE_normal ?_
                  first
                    | exact ⟨((mid + 1, b0, L), _, _, _), ⟨by simp only; omega, by simp only; omega, by simp only; omega, hLl, q1, q2, rfl, rfl, (congrArg (Value.int .i64) (by first | omega | rfl | (simp only; omega))), rfl, rfl, rfl, H⟩, by simp only; omega⟩
                    | exact ⟨((a0, mid, L), _, _, _), ⟨by simp only; omega, by simp only; omega, by simp only; omega, hLl, q1, q2, rfl, rfl, rfl, (congrArg (Value.int .i64) (by first | omega | rfl | (simp only; omega))), rfl, rfl, H⟩, by simp only; omega⟩
                    | exact ⟨(((Go.Sort.partitionEqual Go.Sort.ltInt M3 a0 b0 p).1, b0, (Go.Sort.partitionEqual Go.Sort.ltInt M3 a0 b0 p).2), _, _, _), ⟨by simp only; omega, by simp only; omega, by simp only; omega, by simp; omega, g4, g5, rfl, rfl, rfl, rfl, rfl, rfl, H⟩, by simp only; omega⟩

theorem sortX_i32 (W : World) (d : Array Int) (A : Option Addr) (c n : Nat) (h : (row A c 21 1 n (nums .i32 d.toList)).ok W) (hM : d.toList.length = n) (hsz : n ≤ 2305843009213693952) :
    Calls Try.prog 9 #[.slice A n c] W fun e w' => ∃ D : Array Int, e = .returned (.tuple #[]) ∧ Fr (row A c 21 1 n (nums .i32 d.toList)).fp W w' ∧ (row A c 21 1 n (nums .i32 D.toList)).ok w' ∧ Go.Sort.PermIn 0 n d D ∧ Go.Sort.SortedIn Go.Sort.ltInt 0 n D := by
  have H : St W (row A c 21 1 n (nums .i32 d.toList)).fp [row A c 21 1 n (nums .i32 d.toList)] [] W := St.one h
  refine calls_enter (N := 11) Try.func9 rfl Try.ntmps9 rfl ?_
  refine WC_seq ?_
  refine WC_region ?_
  refine WL_x (x_move (v := .slice _ _ _) rfl) ?_
  refine WL_x (x_len Try.underlying23 rfl) ?_
  refine WL_x (x_assign (v := .int .i64 _) rfl) ?_
  refine WL_nil ?_
  refine thenE_normal ?_
  refine WC_region ?_
  refine WL_x (x_move (v := .slice _ _ _) rfl) ?_
  refine WL_x (x_move (v := .int .i64 _) rfl) ?_
  refine WL_x (x_move (v := .int .i64 _) rfl) ?_
  refine WL_x (x_convert Try.underlying3 Try.underlying43 rfl (u64_in (by omega) (by omega))) ?_
  refine WL_call (vs := [.int .u64 _]) Try.func14 rfl rfl rfl (bitsLenx_i32 _ _ (by omega)) ?_
  rintro _ w ⟨v, rfl, hv, hf⟩
  refine ⟨_, rfl, ?_⟩
  replace H := H.quiet hf
  refine WL_call (vs := [.slice _ _ _, (.int .i64 0), .int .i64 _, .int .i64 _]) Try.func13 rfl rfl rfl (pdq_i32 _ _ d A c n (H.ok _ List.mem_cons_self) hM hsz 0 n _ rfl (Nat.zero_le _) (Nat.le_refl _) (.inl rfl)) ?_
  rintro _ w ⟨D, rfl, hf, hok, hp, hs⟩
  refine ⟨_, rfl, ?_⟩
  replace H := H.turn .zero hf (fun _ h => .inl h) hok (fun _ h => .inl h)
  refine WL_nil ?_
  refine endn0 Try.results9 ?_
  exact ⟨D, rfl, H.fr, H.ok _ List.mem_cons_self, hp, hs⟩
end Go.Proofs.Ytjagiknmaoilhaa
