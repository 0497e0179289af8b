import Derived.Test.YtecdgmdkepiopaaHWDkQ
set_option linter.unusedSimpArgs false
set_option linter.unusedVariables false
set_option linter.unusedSectionVars false
namespace Go.Proofs.Ytecdgmdkepiopaa
open Go Go.HW Go.RowKit
attribute [local irreducible] WL WC WG wpList Code.wp

theorem equal_u32 (W : World) (xs ys : List Int) (A B : Option Addr) (c d n m : Nat) (hn : xs.length = n) (hm : ys.length = m) (hx : Cells W A (nums .u32 xs)) (hy : Cells W B (nums .u32 ys)) (hl : xs.length ≤ maxLen) :
    Calls Try.prog 20 #[.slice A n c, .slice B m d] W fun e w' => e = .returned (.bool (decide (xs = ys))) ∧ Fr [] W w' := by
  subst hn; subst hm
  unfold maxLen at hl
  have H : St W [] [] [Go.HW.cells A (nums .u32 xs), Go.HW.cells B (nums .u32 ys)] W := St.start [] (by simp; exact ⟨cells_ok hx, cells_ok hy⟩)
  refine calls_enter (N := 26) Try.func20 rfl Try.ntmps20 rfl ?_
  refine WC_seq ?_
  refine WC_region ?_
  refine WL_x (x_assign (v := (.bool false)) rfl) ?_
  refine WL_nil ?_
  refine thenE_normal ?_
  refine WC_seq ?_
  refine WC_seq ?_
  refine WC_region ?_
  refine WL_x (x_move (v := .slice _ _ _) rfl) ?_
  refine WL_x (x_len Try.underlying33 rfl) ?_
  refine WL_x (x_move (v := .slice _ _ _) rfl) ?_
  refine WL_x (x_len Try.underlying33 rfl) ?_
  refine WL_x (x_binop rfl rfl (r_neq _ _ _ _)) ?_
  refine WL_nil ?_
  refine thenE_normal ?_
  refine WC_ifd rfl (fun h10 => ?_) (fun h10 => ?_)
  · refine WC_seq ?_
    refine WC_region ?_
    refine WL_x (x_assign (v := (.bool false)) rfl) ?_
    refine WL_nil ?_
    refine thenE_normal ?_
    refine WC_ret ?_
    refine thenE_ret ?_
    refine ends1 (v := .bool _) Try.results20 rfl ?_
    first
      | exact ⟨by rw [decide_eq_false (by intro e; subst e; exact h10 rfl)], H.fr⟩
      | exact ⟨by rw [decide_eq_false (by intro e; subst e; exact h24 rfl)], H.fr⟩
      | exact ⟨by rw [decide_eq_true (by rw [← List.take_of_length_le (l := xs) (i := k) (by omega), htk, List.take_of_length_le (by omega)])], H.fr⟩
  · have hlen : xs.length = ys.length := by omega
    clear h10
    refine WC_skip ?_
    refine thenE_normal ?_
    refine WC_seq ?_
    refine WC_seq ?_
    refine WC_region ?_
    refine WL_x (x_move (v := .slice _ _ _) rfl) ?_
    refine WL_x (x_len Try.underlying33 rfl) ?_
    refine WL_x (x_move (v := (.int .i64 0)) rfl) ?_
    refine WL_nil ?_
    refine thenE_normal ?_
    refine WC_block ?_
    refine WC_while (fun (k : Nat) f w' => k ≤ xs.length ∧ xs.take k = ys.take k ∧ f 13 = .int .i64 k ∧ f 12 = .int .i64 xs.length ∧ f 0 = .slice A xs.length c ∧ f 1 = .slice B ys.length d ∧ St W [] [] [cells A (nums .u32 xs), cells B (nums .u32 ys)] w') (fun k => xs.length - k) (s0 := 0) ?_ ?_
    · exact ⟨Nat.zero_le _, by simp, rfl, rfl, rfl, rfl, H⟩
    · clear H
      rintro k f w ⟨hk, htk, h13, h12, h0, h1, H⟩
      rw [← upd_self h13, ← upd_self h12, ← upd_self h0, ← upd_self h1]
      refine WC_seq ?_
      refine WC_region ?_
      refine WL_x (x_binop rfl rfl (r_lss _ _ _ _)) ?_
      refine WL_nil ?_
      refine thenE_normal ?_
      refine WC_seq ?_
      refine WC_ifd rfl (fun h14 => ?_) (fun h14 => ?_)
      · refine WC_skip ?_
        refine thenE_normal ?_
        refine WC_seq ?_
        refine WC_block ?_
        refine WC_seq ?_
        refine WC_region ?_
        refine WL_x (x_move (v := .int .i64 _) rfl) ?_
        refine WL_x (x_assign (v := .int .i64 _) rfl) ?_
        refine WL_nil ?_
        refine thenE_normal ?_
        refine WC_seq ?_
        refine WC_drawH (m := 9) (listed := [false, false, false, false, false, false, false, false, false]) 9 (by kernel_rfl) rfl rfl H ?_
        intro w H
        refine WG_take (i := 0) (listed' := [true, false, false, false, false, false, false, false, false]) rfl (by kernel_rfl) (fun w H => x_move (v := .slice _ _ _) rfl) H rfl ?_
        refine WG_take (i := 1) (listed' := [true, true, false, false, false, false, false, false, false]) rfl (by kernel_rfl) (fun w H => x_move (v := .int .i64 _) rfl) H rfl ?_
        refine WG_take (i := 2) (listed' := [true, true, true, false, false, false, false, false, false]) rfl (by kernel_rfl) (fun w H => x_indexAddr (s := 1) Try.underlying33 (by kernel_rfl) rfl rfl (by omega) (by omega) (by first | rfl | assumption | exact H.rsomen .zero (by omega) | exact H.rsomen (.succ .zero) (by omega) | exact H.rsomen (.succ (.succ .zero)) (by omega) | exact H.osomen .zero (by omega) | exact H.osomen (.succ .zero) (by omega) | exact H.osomen (.succ (.succ .zero)) (by omega)) rfl) H rfl ?_
        first | refine WG_take (i := 3) (listed' := [true, true, true, true, false, false, false, false, false]) rfl (by kernel_rfl) (fun w H => x_load (v := .int .u32 _) Try.underlying22 rfl rfl (H.cellAt .zero rfl)) H rfl ?_ | refine WG_take (i := 3) (listed' := [true, true, true, true, false, false, false, false, false]) rfl (by kernel_rfl) (fun w H => x_load (v := .int .u32 _) Try.underlying22 rfl rfl (H.cellAt (.succ .zero) rfl)) H rfl ?_ | refine WG_take (i := 3) (listed' := [true, true, true, true, false, false, false, false, false]) rfl (by kernel_rfl) (fun w H => x_load (v := .int .u32 _) Try.underlying22 rfl rfl (H.cellAt (.succ (.succ .zero)) rfl)) H rfl ?_ | refine WG_take (i := 3) (listed' := [true, true, true, true, false, false, false, false, false]) rfl (by kernel_rfl) (fun w H => x_load (v := .int .u32 _) Try.underlying22 rfl rfl (H.cellAt (.succ (.succ (.succ .zero))) rfl)) H rfl ?_ | refine WG_take (i := 3) (listed' := [true, true, true, true, false, false, false, false, false]) rfl (by kernel_rfl) (fun w H => x_load (v := .int .u32 _) Try.underlying22 rfl rfl (H.cellAt (.succ (.succ (.succ (.succ .zero)))) rfl)) H rfl ?_ | refine WG_take (i := 3) (listed' := [true, true, true, true, false, false, false, false, false]) rfl (by kernel_rfl) (fun w H => x_load Try.underlying22 rfl rfl (H.rnum .zero (by omega) (by omega))) H rfl ?_ | refine WG_take (i := 3) (listed' := [true, true, true, true, false, false, false, false, false]) rfl (by kernel_rfl) (fun w H => x_load Try.underlying22 rfl rfl (H.rnum (.succ .zero) (by omega) (by omega))) H rfl ?_ | refine WG_take (i := 3) (listed' := [true, true, true, true, false, false, false, false, false]) rfl (by kernel_rfl) (fun w H => x_load Try.underlying22 rfl rfl (H.rnum (.succ (.succ .zero)) (by omega) (by omega))) H rfl ?_ | refine WG_take (i := 3) (listed' := [true, true, true, true, false, false, false, false, false]) rfl (by kernel_rfl) (fun w H => x_load Try.underlying22 rfl rfl (H.onum .zero (by omega) (by omega))) H rfl ?_ | refine WG_take (i := 3) (listed' := [true, true, true, true, false, false, false, false, false]) rfl (by kernel_rfl) (fun w H => x_load Try.underlying22 rfl rfl (H.onum (.succ .zero) (by omega) (by omega))) H rfl ?_ | refine WG_take (i := 3) (listed' := [true, true, true, true, false, false, false, false, false]) rfl (by kernel_rfl) (fun w H => x_load Try.underlying22 rfl rfl (H.onum (.succ (.succ .zero)) (by omega) (by omega))) H rfl ?_
        refine WG_take (i := 4) (listed' := [true, true, true, true, true, false, false, false, false]) rfl (by kernel_rfl) (fun w H => x_move (v := .slice _ _ _) rfl) H rfl ?_
        refine WG_take (i := 5) (listed' := [true, true, true, true, true, true, false, false, false]) rfl (by kernel_rfl) (fun w H => x_move (v := .int .i64 _) rfl) H rfl ?_
        refine WG_take (i := 6) (listed' := [true, true, true, true, true, true, true, false, false]) rfl (by kernel_rfl) (fun w H => x_indexAddr (s := 1) Try.underlying33 (by kernel_rfl) rfl rfl (by omega) (by omega) (by first | rfl | assumption | exact H.rsomen .zero (by omega) | exact H.rsomen (.succ .zero) (by omega) | exact H.rsomen (.succ (.succ .zero)) (by omega) | exact H.osomen .zero (by omega) | exact H.osomen (.succ .zero) (by omega) | exact H.osomen (.succ (.succ .zero)) (by omega)) rfl) H rfl ?_
        first | refine WG_take (i := 7) (listed' := [true, true, true, true, true, true, true, true, false]) rfl (by kernel_rfl) (fun w H => x_load (v := .int .u32 _) Try.underlying22 rfl rfl (H.cellAt .zero rfl)) H rfl ?_ | refine WG_take (i := 7) (listed' := [true, true, true, true, true, true, true, true, false]) rfl (by kernel_rfl) (fun w H => x_load (v := .int .u32 _) Try.underlying22 rfl rfl (H.cellAt (.succ .zero) rfl)) H rfl ?_ | refine WG_take (i := 7) (listed' := [true, true, true, true, true, true, true, true, false]) rfl (by kernel_rfl) (fun w H => x_load (v := .int .u32 _) Try.underlying22 rfl rfl (H.cellAt (.succ (.succ .zero)) rfl)) H rfl ?_ | refine WG_take (i := 7) (listed' := [true, true, true, true, true, true, true, true, false]) rfl (by kernel_rfl) (fun w H => x_load (v := .int .u32 _) Try.underlying22 rfl rfl (H.cellAt (.succ (.succ (.succ .zero))) rfl)) H rfl ?_ | refine WG_take (i := 7) (listed' := [true, true, true, true, true, true, true, true, false]) rfl (by kernel_rfl) (fun w H => x_load (v := .int .u32 _) Try.underlying22 rfl rfl (H.cellAt (.succ (.succ (.succ (.succ .zero)))) rfl)) H rfl ?_ | refine WG_take (i := 7) (listed' := [true, true, true, true, true, true, true, true, false]) rfl (by kernel_rfl) (fun w H => x_load Try.underlying22 rfl rfl (H.rnum .zero (by omega) (by omega))) H rfl ?_ | refine WG_take (i := 7) (listed' := [true, true, true, true, true, true, true, true, false]) rfl (by kernel_rfl) (fun w H => x_load Try.underlying22 rfl rfl (H.rnum (.succ .zero) (by omega) (by omega))) H rfl ?_ | refine WG_take (i := 7) (listed' := [true, true, true, true, true, true, true, true, false]) rfl (by kernel_rfl) (fun w H => x_load Try.underlying22 rfl rfl (H.rnum (.succ (.succ .zero)) (by omega) (by omega))) H rfl ?_ | refine WG_take (i := 7) (listed' := [true, true, true, true, true, true, true, true, false]) rfl (by kernel_rfl) (fun w H => x_load Try.underlying22 rfl rfl (H.onum .zero (by omega) (by omega))) H rfl ?_ | refine WG_take (i := 7) (listed' := [true, true, true, true, true, true, true, true, false]) rfl (by kernel_rfl) (fun w H => x_load Try.underlying22 rfl rfl (H.onum (.succ .zero) (by omega) (by omega))) H rfl ?_ | refine WG_take (i := 7) (listed' := [true, true, true, true, true, true, true, true, false]) rfl (by kernel_rfl) (fun w H => x_load Try.underlying22 rfl rfl (H.onum (.succ (.succ .zero)) (by omega) (by omega))) H rfl ?_
        refine WG_take (i := 8) (listed' := [true, true, true, true, true, true, true, true, true]) rfl (by kernel_rfl) (fun w H => x_binop rfl rfl (r_neq _ _ _ _)) H rfl ?_
        refine WG_done (by kernel_rfl) ?_
        refine thenE_normal ?_
        refine WC_ifd rfl (fun h24 => ?_) (fun h24 => ?_)
        · refine WC_seq ?_
          refine WC_region ?_
          refine WL_x (x_assign (v := (.bool false)) rfl) ?_
          refine WL_nil ?_
          refine thenE_normal ?_
          refine WC_ret ?_
          refine inBlockE_ret ?_
          refine thenE_ret ?_
          refine thenE_ret ?_
          refine inBlockE_ret ?_
          refine thenE_ret ?_
          refine ends1 (v := .bool _) Try.results20 rfl ?_
          first
            | exact ⟨by rw [decide_eq_false (by intro e; subst e; exact h10 rfl)], H.fr⟩
            | exact ⟨by rw [decide_eq_false (by intro e; subst e; exact h24 rfl)], H.fr⟩
            | exact ⟨by rw [decide_eq_true (by rw [← List.take_of_length_le (l := xs) (i := k) (by omega), htk, List.take_of_length_le (by omega)])], H.fr⟩
        · refine WC_skip ?_
          refine inBlockE_normal ?_
          refine thenE_normal ?_
          refine WC_region ?_
          refine WL_x (x_binop rfl rfl (r_add_in (i64_in (by omega) (by omega)))) ?_
          refine WL_x (x_move (v := .int .i64 _) rfl) ?_
          refine WL_nil ?_
          refine thenE_normal ?_
          refine ⟨k + 1, ⟨by omega, ?_, rfl, rfl, rfl, rfl, H⟩, by omega⟩
          rw [take_succ_nth xs k (by omega), take_succ_nth ys k (by omega), htk, Classical.not_not.1 h24]
      · refine WC_exit ?_
        refine thenE_exit ?_
        refine thenE_exit ?_
        refine inBlockE_exit ?_
        refine thenE_normal ?_
        refine WC_seq ?_
        refine WC_region ?_
        refine WL_x (x_assign (v := (.bool true)) rfl) ?_
        refine WL_nil ?_
        refine thenE_normal ?_
        refine WC_ret ?_
        refine ends1 (v := .bool _) Try.results20 rfl ?_
        first
          | exact ⟨by rw [decide_eq_false (by intro e; subst e; exact h10 rfl)], H.fr⟩
          | exact ⟨by rw [decide_eq_false (by intro e; subst e; exact h24 rfl)], H.fr⟩
          | exact ⟨by rw [decide_eq_true (by rw [← List.take_of_length_le (l := xs) (i := k) (by omega), htk, List.take_of_length_le (by omega)])], H.fr⟩

structure Ac where
  d : Int
  p : Int
  t : Int
  near : Bool
  m : Int
instance : Inhabited Ac := ⟨⟨0, 0, 0, false, 0⟩⟩
def Ac.enc (a : Ac) : List Value := [.int .u8 a.d, .int .i64 a.p, .int .u32 a.t, .bool a.near, .int .u32 a.m]
theorem Ac.len (a : Ac) : a.enc.length = 5 := rfl
structure Ac.ok (a : Ac) : Prop where
  d0 : 0 ≤ a.d
  d1 : a.d ≤ 255
  p0 : -9223372036854775808 ≤ a.p
  p1 : a.p ≤ 9223372036854775807
  t0 : 0 ≤ a.t
  t1 : a.t ≤ 4294967295
  m0 : 0 ≤ a.m
  m1 : a.m ≤ 4294967295
/-! ### the desk against the document's -/
theorem lookL_cons (x : Mv) (L : List Mv) (p t : Int) : lookL (x :: L) p t = if x.is p t = true then some x.m else lookL L p t := by
  unfold lookL
  rw [List.find?_cons]
  cases x.is p t <;> simp
theorem lookL_filter (f : Mv → Bool) (h : Int → Int → Bool) (hf : ∀ y, f y = h y.p y.t) (L : List Mv) (p t : Int) : lookL (L.filter f) p t = if h p t = true then lookL L p t else none := by
  induction L with
  | nil => simp [lookL]
  | cons x L ih =>
    rw [List.filter_cons, lookL_cons]
    by_cases hx : x.is p t = true
    · have hxp : x.p = p ∧ x.t = t := by simpa [Mv.is] using hx
      rw [if_pos hx, hf x, hxp.1, hxp.2]
      by_cases hh : h p t = true
      · rw [if_pos hh, if_pos hh, lookL_cons, if_pos hx]
      · rw [if_neg hh, if_neg hh, ih, if_neg hh]
    · rw [if_neg hx]
      split
      · rw [lookL_cons, if_neg hx, ih]
      · exact ih
theorem lookL_mem {L : List Mv} {p t v : Int} (h : lookL L p t = some v) : ∃ y, y ∈ L ∧ y.p = p ∧ y.t = t ∧ y.m = v := by
  unfold lookL at h
  rw [Option.map_eq_some_iff] at h
  obtain ⟨y, hy, rfl⟩ := h
  have h1 := List.find?_some hy
  simp [Mv.is] at h1
  exact ⟨y, List.mem_of_find?_eq_some hy, h1.1, h1.2, rfl⟩
theorem lookL_some {L : List Mv} {y : Mv} (h : y ∈ L) : (lookL L y.p y.t).isSome = true := by
  cases hl : lookL L y.p y.t with
  | some v => rfl
  | none =>
    unfold lookL at hl
    rw [Option.map_eq_none_iff, List.find?_eq_none] at hl
    exact absurd (hl y h) (by simp [Mv.is])
structure Rel (g : Gm) (D : Dk) (L : List Mv) (i : Nat) : Prop where
  pl : D.pl = if gameRight g = true then g.pl else 0
  moves : D.moves = g.moves
  usual : D.usual = g.dflt
  look : ∀ p t, D.l (p, t) = lookL L p t
  nd : (L.map fun y => (y.p, y.t)).Nodup
  rng : ∀ y, y ∈ L → 0 ≤ y.p ∧ y.p < D.pl ∧ D.tick < y.t ∧ y.t ≤ D.tick + 8
  tk : 0 ≤ D.tick ∧ D.tick ≤ i
  len : L.length ≤ i
  ok : D.ok
theorem Rel.mono {g : Gm} {D : Dk} {L : List Mv} {i j : Nat} (h : Rel g D L i) (hij : i ≤ j) : Rel g D L j := ⟨h.pl, h.moves, h.usual, h.look, h.nd, h.rng, ⟨h.tk.1, by have := h.tk.2; omega⟩, Nat.le_trans h.len hij, h.ok⟩
theorem Rel.inv {g : Gm} {D : Dk} {L : List Mv} {i : Nat} (h : Rel g D L i) : D.inv := ⟨fun p t v hv => by
  rw [h.look] at hv
  obtain ⟨y, hy, rfl, rfl, _⟩ := lookL_mem hv
  exact ⟨(h.rng y hy).2.2.1, (h.rng y hy).2.2.2⟩⟩
theorem Rel.start (g : Gm) (hg : g.ok) : Rel g (newD g) [] 0 := ⟨rfl, rfl, rfl, fun p t => rfl, by simp, by simp, by simp [newD], by simp, newD_ok g hg⟩
theorem Rel.held {g : Gm} {D : Dk} {L : List Mv} {i : Nat} (h : Rel g D L i) (p : Int) : heldL D p = refHeld L D.tick p 8 := by
  unfold heldL refHeld window
  congr 1
  funext t
  rw [h.look]
theorem Rel.putE {g : Gm} {D : Dk} {L : List Mv} {i : Nat} (h : Rel g D L i) (p t m : Int) : putE D p t m = rputE g L D.tick p t m := by
  unfold Proofs.Ytecdgmdkepiopaa.putE rputE
  rw [h.pl, h.moves, h.look]
  by_cases hr : gameRight g = true
  · rw [if_pos hr]
    have hc : (p < 0 ∨ (gameRight g = false) ∨ g.pl ≤ p) ↔ (p < 0 ∨ g.pl ≤ p) := by rw [hr]; simp
    have h8 : (t - D.tick > 8) ↔ (t > D.tick + 8) := by omega
    simp only [hc, h8]
  · rw [if_neg hr, if_pos (by omega), if_pos (by simp at hr; simp [hr])]
theorem Rel.put {g : Gm} {D : Dk} {L : List Mv} {i : Nat} (h : Rel g D L i) (p t m : Int) : Rel g (putD D p t m) (rputL g L D.tick p t m) (i + 1) := by
  by_cases he : Proofs.Ytecdgmdkepiopaa.putE D p t m = 0
  · have hz := putE_zero he
    have hD : putD D p t m = { D with l := mset D.l (p, t) m } := by unfold putD; rw [if_pos he]
    have hL : rputL g L D.tick p t m = L ++ [⟨p, t, m⟩] := by unfold rputL; rw [if_pos (by rw [← h.putE]; exact he)]
    have hno : lookL L p t = none := by rw [← h.look]; exact hz.2.2.2.2.2
    have hnoy : ∀ y, y ∈ L → ¬ (y.p = p ∧ y.t = t) := fun y hy hh => by
      have := lookL_some hy
      rw [hh.1, hh.2, hno] at this
      cases this
    rw [hD, hL]
    refine ⟨h.pl, h.moves, h.usual, fun q u => ?_, ?_, ?_, ⟨h.tk.1, by have := h.tk.2; simp only; omega⟩, by rw [List.length_append]; have := h.len; simp; omega, by rw [← hD]; exact putD_ok _ _ _ _ h.ok⟩
    · simp only [mset]
      have e : lookL (L ++ [(⟨p, t, m⟩ : Mv)]) q u = (lookL L q u).or (lookL [(⟨p, t, m⟩ : Mv)] q u) := by
        unfold lookL
        rw [List.find?_append]
        cases L.find? (Mv.is q u) <;> rfl
      rw [e, lookL_cons]
      by_cases hq : (q, u) = (p, t)
      · obtain ⟨rfl, rfl⟩ := Prod.mk.inj hq
        rw [if_pos rfl, hno, if_pos (by simp [Mv.is])]; rfl
      · rw [if_neg hq, h.look, if_neg (by simp [Mv.is]; intro a b; exact hq (by rw [a, b]))]
        cases lookL L q u <;> rfl
    · rw [List.map_append, List.nodup_append]
      refine ⟨h.nd, by simp, fun a ha b hb => ?_⟩
      simp at hb
      subst hb
      obtain ⟨y, hy, rfl⟩ := List.mem_map.1 ha
      intro e
      exact hnoy y hy (by simpa using e)
    · intro y hy
      rw [List.mem_append] at hy
      rcases hy with hy | hy
      · exact h.rng y hy
      · simp at hy; subst hy; exact ⟨hz.1, hz.2.1, hz.2.2.2.1, hz.2.2.2.2.1⟩
  · have hL : rputL g L D.tick p t m = L := by unfold rputL; rw [if_neg (by rw [← h.putE]; exact he)]
    rw [putD_not he, hL]
    exact h.mono (by omega)
theorem Rel.next {g : Gm} {D : Dk} {L : List Mv} {i : Nat} (h : Rel g D L i) (hi : i ≤ 1000) : nextT D = D.tick + 1 ∧ nextR D.tick = D.tick + 1 := by
  have := h.tk
  unfold nextT nextR
  rw [IntKind.wrap_u32]
  omega
theorem Rel.takeL {g : Gm} {D : Dk} {L : List Mv} {i : Nat} (h : Rel g D L i) (hi : i ≤ 1000) : takeL D = rtakeL g L D.tick := by
  obtain ⟨e1, e2⟩ := h.next hi
  unfold Proofs.Ytecdgmdkepiopaa.takeL rtakeL rtakeP
  rw [h.pl, e1, e2, h.usual]
  by_cases hr : gameRight g = true
  · rw [if_pos hr, if_pos hr]
    congr 1
    funext p
    rw [h.look]
  · rw [if_neg hr, if_neg hr]; rfl
theorem Rel.take {g : Gm} {D : Dk} {L : List Mv} {i : Nat} (h : Rel g D L i) (hi : i ≤ 1000) : Rel g (takeD D) (rleft g L D.tick) (i + 1) := by
  obtain ⟨e1, e2⟩ := h.next hi
  have htk := h.tk
  have hleft : rleft g L D.tick = L.filter (fun y => decide (y.t > D.tick + 1)) := by
    unfold rleft
    by_cases hr : gameRight g = true
    · rw [if_pos hr, e2]
    · rw [if_neg hr]
      have hnil : L = [] := by
        cases L with
        | nil => rfl
        | cons y L =>
          have := h.rng y (by simp)
          rw [h.pl, if_neg hr] at this
          omega
      subst hnil; rfl
  refine ⟨h.pl, h.moves, h.usual, fun p t => ?_, ?_, ?_, ⟨by simp only [takeD, e1]; omega, by simp only [takeD, e1]; omega⟩, ?_, takeD_ok _ h.ok⟩
  · rw [hleft, lookL_filter _ (fun _ u => decide (u > D.tick + 1)) (fun y => rfl)]
    simp only [takeD, takeM, e1]
    by_cases h1 : 0 ≤ p ∧ p < (D.pl.toNat : Int) ∧ t = D.tick + 1
    · rw [if_pos h1, if_neg (by simp; omega)]
    · rw [if_neg h1, h.look]
      by_cases h2 : t > D.tick + 1
      · rw [if_pos (by simpa using h2)]
      · rw [if_neg (by simpa using h2)]
        cases hl : lookL L p t with
        | none => rfl
        | some v =>
          obtain ⟨y, hy, rfl, rfl, _⟩ := lookL_mem hl
          have := h.rng y hy
          omega
  · rw [hleft]
    exact (List.filter_sublist.map _).nodup h.nd
  · intro y hy
    rw [hleft, List.mem_filter] at hy
    have h1 := h.rng y hy.1
    have h2 : y.t > D.tick + 1 := by simpa using hy.2
    simp only [takeD, e1]
    omega
  · rw [hleft]
    have := h.len
    have := List.length_filter_le (fun y : Mv => decide (y.t > D.tick + 1)) L
    omega
theorem Rel.drop {g : Gm} {D : Dk} {L : List Mv} {i : Nat} (h : Rel g D L i) (p : Int) : Rel g (dropD D p) (dropL L p) i := by
  refine ⟨h.pl, h.moves, h.usual, fun q t => ?_, ?_, ?_, h.tk, ?_, ⟨h.ok.pl0, h.ok.pl1, h.ok.moves0, h.ok.moves1, h.ok.usual0, h.ok.usual1, h.ok.tick0, h.ok.tick1⟩⟩
  · unfold dropL
    rw [lookL_filter _ (fun u _ => decide (u ≠ p)) (fun y => rfl)]
    simp only [dropD]
    by_cases hq : q = p
    · rw [if_pos hq, if_neg (by simpa using hq)]
    · rw [if_neg hq, if_pos (by simpa using hq), h.look]
  · exact (List.filter_sublist.map _).nodup h.nd
  · intro y hy; exact h.rng y (List.mem_filter.1 hy).1
  · exact Nat.le_trans (List.length_filter_le _ _) h.len
theorem filter_count {α : Type} (f : α → Bool) (L : List α) : L.length = (L.filter f).length + (L.filter (fun y => !f y)).length := by
  induction L with
  | nil => rfl
  | cons y L ih => rw [List.filter_cons, List.filter_cons]; cases f y <;> simp <;> omega
theorem Rel.count {g : Gm} {D : Dk} {L : List Mv} {i : Nat} (h : Rel g D L i) (p : Int) : ((heldL D p).length : Int) = (L.length : Int) - ((dropL L p).length : Nat) := by
  have e1 := filter_count (fun y => decide (y.p = p)) L
  have e2 : (dropL L p).length = (L.filter (fun y => !decide (y.p = p))).length := by
    unfold dropL
    congr 2
    funext y; simp
  have e3 : (heldL D p).Perm ((L.filter (fun y => decide (y.p = p))).map (·.t)) := by
    refine (List.perm_ext_iff_of_nodup ((heldL_lt D p).imp (by intro a b h; omega)) ?_).2 fun t => ?_
    · have hp : (L.map fun y => (y.p, y.t)).Pairwise (· ≠ ·) := h.nd
      rw [List.pairwise_map] at hp
      show List.Pairwise (· ≠ ·) _
      rw [List.pairwise_map]
      refine (hp.filter (fun y => decide (y.p = p))).imp_of_mem ?_
      intro a b ha hb hab e
      have h1 : a.p = p := by simpa using (List.mem_filter.1 ha).2
      have h2 : b.p = p := by simpa using (List.mem_filter.1 hb).2
      exact hab (by rw [h1, h2, e])
    · rw [mem_heldL D h.inv, h.look]
      constructor
      · intro hs
        obtain ⟨v, hv⟩ := Option.isSome_iff_exists.1 hs
        obtain ⟨y, hy, hyp, rfl, _⟩ := lookL_mem hv
        exact List.mem_map.2 ⟨y, List.mem_filter.2 ⟨hy, by simpa using hyp⟩, rfl⟩
      · intro hm
        obtain ⟨y, hy, rfl⟩ := List.mem_map.1 hm
        obtain ⟨hy1, hy2⟩ := List.mem_filter.1 hy
        have : y.p = p := by simpa using hy2
        rw [← this]
        exact lookL_some hy1
  have e4 := e3.length_eq
  rw [List.length_map] at e4
  omega

set_option maxHeartbeats 4000000 in
theorem plays_ok (W : World) (g : Gm) (A B : Option Addr) (ca cb : Nat) (acts : List Ac) (AA : Option Addr) (cA : Nat) (hg : g.ok) (hca : g.cells.length ≤ ca) (hcb : g.code.length ≤ cb) (hx : Cells W A (encs Cel.enc g.cells)) (hy : Cells W B (encs Cd.enc g.code))
    (hz : Cells W AA (encs Ac.enc acts)) (hacts : ∀ a, a ∈ acts → a.ok) (hla : acts.length ≤ maxLen) :
    Calls Try.prog 7 #[.agg (g.val A ca B cb).toArray, .slice AA acts.length cA] W fun e w' => e = .returned (.bool true) ∧ Fr [] W w' := by
  unfold maxLen at hla
  have H : St W [] [] [Go.HW.cells A (encs Cel.enc g.cells), Go.HW.cells B (encs Cd.enc g.code), Go.HW.cells AA (encs Ac.enc acts)] W := St.start [] (by simp; exact ⟨cells_ok hx, cells_ok hy, cells_ok hz⟩)
  refine calls_enter (N := 108) Try.func7 rfl Try.ntmps7 rfl ?_
  refine WC_seq ?_
  refine WC_region ?_
  refine WL_box (v := .agg (List.toArray _)) rfl rfl H ?_
  clear H; intro b2 w H
  refine WL_x (x_assign (v := (.bool false)) rfl) ?_
  refine WL_nil ?_
  refine thenE_normal ?_
  refine WC_seq ?_
  refine WC_seq ?_
  refine WC_region ?_
  refine WL_call (vs := []) Try.func9 rfl rfl rfl (awake_ok _) ?_
  rintro _ w ⟨rfl, hf⟩
  refine ⟨_, rfl, ?_⟩
  replace H := H.quiet hf
  refine WL_x (x_not rfl) ?_
  refine WL_nil ?_
  refine thenE_normal ?_
  refine WC_no rfl ?_
  refine WC_skip ?_
  refine thenE_normal ?_
  refine WC_seq ?_
  refine WC_region ?_
  refine WL_x (x_loadA (n := 6) (vs := g.val A ca B cb) Try.underlying26 rfl (by kernel_rfl) rfl rfl (H.rangeAll .zero rfl rfl)) ?_
  refine WL_call (vs := [.agg (List.toArray _)]) Try.func10 rfl rfl rfl (few_ok _ g A B ca cb hg hca hcb (H.rget (Has.mem .zero)) (H.rget (Has.mem (.succ .zero)))) ?_
  rintro _ w ⟨A1, ca1, B1, cb1, rfl, hf, hok, hfr⟩
  refine ⟨_, rfl, ?_⟩
  replace H := (H.rnews hf hok hfr).drop (ro' := [Go.HW.cells A1 (encs Cel.enc (fewG g).cells), Go.HW.cells B1 (encs Cd.enc (fewG g).code), Go.HW.cells AA (encs Ac.enc acts)]) (List.Sublist.refl _) (fun d hd => by simp only [gameR, List.mem_append, List.mem_cons, List.not_mem_nil, or_false] at hd ⊢; rcases hd with h | h | h <;> simp [h])
  have hG := fewG_ok g hg
  clear hx hy hca hcb hok hfr
  refine WL_storeA (l' := (fewG g).val A1 ca1 B1 cb1) rfl rfl rfl (by kernel_rfl) H .zero (Nat.le_of_ble_eq_true rfl) (splice_all _ _ rfl) ?_
  clear H; intro w H
  refine WL_nil ?_
  refine thenE_normal ?_
  refine WC_seq ?_
  refine WC_drawS (m := 8) (listed := [false, false, false, false, false, false, false, false]) (fun w => Blk w b2 ((fewG g).val A1 ca1 B1 cb1) 26) 8 (by kernel_rfl) rfl rfl H (fun w H => H.get (Has.mem .zero)) ?_
  intro w H HS
  refine WG_take (i := 0) (listed' := [true, false, false, false, false, false, false, false]) rfl (by kernel_rfl) (fun w HS => x_loadA (n := 6) (vs := (fewG g).val A1 ca1 B1 cb1) Try.underlying26 rfl (by kernel_rfl) rfl rfl (range_blk HS 0 6 _ rfl)) HS rfl ?_
  refine WG_take (i := 2) (listed' := [true, false, true, false, false, false, false, false]) rfl (by kernel_rfl) (fun w HS => x_loadA (n := 6) (vs := (fewG g).val A1 ca1 B1 cb1) Try.underlying26 rfl (by kernel_rfl) rfl rfl (range_blk HS 0 6 _ rfl)) HS rfl ?_
  refine WG_mid (i := 1) (listed' := [true, true, true, false, false, false, false, false]) rfl rfl (by kernel_rfl) rfl rfl ?_
  refine WL_call (vs := [.agg (List.toArray _)]) Try.func12 rfl rfl rfl (new_ok _ (fewG g) _ _ _ _ hG (H.rget (Has.mem .zero)) (H.rget (Has.mem (.succ .zero)))) ?_
  rintro _ w ⟨d, b0, rfl, hf, hok, hfr⟩
  refine ⟨_, rfl, ?_⟩
  replace H := H.new hf hok hfr
  refine WL_nil ?_
  have HS := (H.get (c := blk b2 ((fewG g).val A1 ca1 B1 cb1) 26) (Has.mem (.succ .zero)) : Blk _ b2 ((fewG g).val A1 ca1 B1 cb1) 26)
  refine mid_mk HS ?_
  refine WG_mid (i := 3) (listed' := [true, true, true, true, false, false, false, false]) rfl rfl (by kernel_rfl) rfl rfl ?_
  refine WL_call (vs := [.agg (List.toArray _)]) Try.func19 rfl rfl rfl (own_ok _ (fewG g) A1 B1 ca1 cb1 (H.rget (Has.mem .zero)) (H.rget (Has.mem (.succ .zero))) (by simp only [fewG, List.length_take]; omega) (by simp only [fewG, List.length_take]; omega)) ?_
  rintro _ w ⟨A2, ca2, B2, cb2, rfl, hf, hok, hfr⟩
  refine ⟨_, rfl, ?_⟩
  replace H := (H.rnews hf hok hfr).drop (ro' := [Go.HW.cells A2 (encs Cel.enc (fewG g).cells), Go.HW.cells B2 (encs Cd.enc (fewG g).code), Go.HW.cells AA (encs Ac.enc acts)]) (List.Sublist.refl _) (fun d hd => by simp only [gameR, List.mem_append, List.mem_cons, List.not_mem_nil, or_false] at hd ⊢; rcases hd with h | h | h <;> simp [h])
  clear hok hfr
  refine WL_nil ?_
  have HS := (H.get (c := blk b2 ((fewG g).val A1 ca1 B1 cb1) 26) (Has.mem (.succ .zero)) : Blk _ b2 ((fewG g).val A1 ca1 B1 cb1) 26)
  refine mid_mk HS ?_
  refine WG_take (i := 4) (listed' := [true, true, true, true, true, false, false, false]) rfl (by kernel_rfl) (fun w HS => x_buildS (pl := [(0, 6), (6, 1), (7, 1)]) (zero := [(.int .i64 0), (.int .i64 0), (.int .u32 0), (.int .u32 0), (.slice none 0 0), (.slice none 0 0), (.slice none 0 0), (.int .u32 0)]) (cells := (gvD (fewG g) A2 ca2 B2 cb2 none 0 0 0)) (vs := [(0, .agg (List.toArray _))]) Try.underlying53 (by kernel_rfl) (by kernel_rfl) (by kernel_rfl) rfl rfl) HS rfl ?_
  refine WG_take (i := 6) (listed' := [true, true, true, true, true, false, true, false]) rfl (by kernel_rfl) (fun w HS => x_assign (v := .pointer _) rfl) HS rfl ?_
  refine WG_mid (i := 5) (listed' := [true, true, true, true, true, true, true, false]) rfl rfl (by kernel_rfl) rfl rfl ?_
  refine WL_box (v := .agg (List.toArray _)) rfl rfl H ?_
  clear H; intro b19 w H
  refine WL_nil ?_
  have HS := (H.get (c := blk b2 ((fewG g).val A1 ca1 B1 cb1) 26) (Has.mem (.succ (.succ .zero))) : Blk _ b2 ((fewG g).val A1 ca1 B1 cb1) 26)
  refine mid_mk HS ?_
  refine WG_take (i := 7) (listed' := [true, true, true, true, true, true, true, true]) rfl (by kernel_rfl) (fun w HS => x_assign (v := .pointer (some _)) rfl) HS rfl ?_
  refine WG_done (by kernel_rfl) ?_
  refine thenE_normal ?_
  refine WC_seq ?_
  refine WC_seq ?_
  refine WC_region ?_
  refine WL_x (x_move (v := .slice _ _ _) rfl) ?_
  refine WL_x (x_len Try.underlying44 rfl) ?_
  refine WL_x (x_move (v := (.int .i64 0)) rfl) ?_
  refine WL_nil ?_
  refine thenE_normal ?_
  refine WC_block ?_
  refine WC_while (fun (s : Nat × Dk × List Mv × Option Addr × Nat) f w' => s.1 ≤ acts.length ∧ s.1 ≤ 60 ∧ Rel (fewG g) s.2.1 s.2.2.1 s.1 ∧ f 22 = .int .i64 s.1 ∧ f 21 = .int .i64 acts.length ∧ f 20 = .slice AA acts.length cA ∧ f 5 = .pointer (some ⟨d, 0, none⟩) ∧ f 6 = .pointer (some ⟨b19, 0, none⟩) ∧ St W [] [refc b19 (fewG g) A2 ca2 B2 cb2 s.2.2.2.1 s.2.2.2.2 (s.2.2.1) (s.2.1).tick, deskc d b0 (s.2.1), blk b2 ((fewG g).val A1 ca1 B1 cb1) 26] [Go.HW.cells A2 (encs Cel.enc (fewG g).cells), Go.HW.cells B2 (encs Cd.enc (fewG g).code), Go.HW.cells AA (encs Ac.enc acts)] w') (fun s => acts.length - s.1) (s0 := (0, newD (fewG g), [], none, 0)) ?_ ?_
  · exact ⟨Nat.zero_le _, by simp only; omega, Rel.start _ hG, rfl, rfl, rfl, rfl, rfl, (H.nilRow 85 3).swap.joinB⟩
  · clear H
    rintro ⟨i, D, L, AL, cL⟩ f w ⟨hi, hi60, hR, h22, h21, h20, h5, h6, H⟩
    simp only at hi hi60 hR h22 h21 h20 h5 h6 H
    rw [← upd_self h22, ← upd_self h21, ← upd_self h20, ← upd_self h5, ← upd_self h6]
    refine WC_seq ?_
    refine WC_region ?_
    refine WL_x (x_binop rfl rfl (r_lss _ _ _ _)) ?_
    refine WL_nil ?_
    refine thenE_normal ?_
    refine WC_seq ?_
    refine WC_ifd rfl (fun h23 => ?_) (fun h23 => ?_)
    · have hi23 : i < acts.length := by omega
      obtain ⟨d0, d1, p0, p1, t0, t1, m0, m1⟩ := hacts _ (List.getElem_mem hi23)
      refine WC_skip ?_
      refine thenE_normal ?_
      refine WC_seq ?_
      refine WC_block ?_
      refine WC_seq ?_
      refine WC_region ?_
      refine WL_x (x_move (v := .int .i64 _) rfl) ?_
      refine WL_x (x_indexAddr (s := 5) Try.underlying44 (by kernel_rfl) rfl rfl (by omega) (by omega) (H.rsome (l := encs Ac.enc acts) (.succ (.succ .zero)) (by rw [encs_length Ac.enc Ac.len]; omega)) rfl) ?_
      refine WL_x (x_loadA (n := 5) (vs := (acts[i]).enc) Try.underlying55 rfl (by kernel_rfl) rfl rfl (H.rrange (k := 5) (.succ (.succ .zero)) (by rw [Int.toNat_natCast]; exact encs_get Ac.enc Ac.len acts i hi23))) ?_
      refine WL_alloc (l := [(.int .u8 0), (.int .i64 0), (.int .u32 0), (.bool false), (.int .u32 0)]) (by kernel_rfl) H ?_
      clear H; intro b8 w H
      refine WL_x (x_assign (v := .int .i64 _) rfl) ?_
      first | refine WL_storeA rfl rfl rfl (by kernel_rfl) H .zero (Nat.le_of_ble_eq_true rfl) (splice_all _ _ rfl) ?_ | refine WL_storeA rfl rfl rfl (by kernel_rfl) H (.succ .zero) (Nat.le_of_ble_eq_true rfl) (splice_all _ _ rfl) ?_ | refine WL_storeA rfl rfl rfl (by kernel_rfl) H (.succ (.succ .zero)) (Nat.le_of_ble_eq_true rfl) (splice_all _ _ rfl) ?_ | refine WL_storeA rfl rfl rfl (by kernel_rfl) H (.succ (.succ (.succ .zero))) (Nat.le_of_ble_eq_true rfl) (splice_all _ _ rfl) ?_ | refine WL_storeA rfl rfl rfl (by kernel_rfl) H (.succ (.succ (.succ (.succ .zero)))) (Nat.le_of_ble_eq_true rfl) (splice_all _ _ rfl) ?_
      clear H; intro w H
      refine WL_nil ?_
      refine thenE_normal ?_
      refine WC_seq ?_
      refine WC_seq ?_
      refine WC_region ?_
      refine WL_x (x_move (v := .int .i64 _) rfl) ?_
      refine WL_x (x_binop rfl rfl (r_geq _ _ _ _)) ?_
      refine WL_nil ?_
      refine thenE_normal ?_
      refine WC_ifd rfl (fun h28 => ?_) (fun h28 => ?_)
      · refine WC_exit ?_
        refine thenE_exit ?_
        refine inBlockE_other rfl ?_
        refine thenE_exit ?_
        refine thenE_exit ?_
        refine inBlockE_exit ?_
        refine thenE_normal ?_
        refine WC_seq ?_
        refine WC_region ?_
        refine WL_x (x_assign (v := (.bool true)) rfl) ?_
        refine WL_nil ?_
        refine thenE_normal ?_
        refine WC_ret ?_
        refine ends1 (v := .bool _) Try.results7 rfl ?_
        exact ⟨rfl, H.fr⟩
      · have hpl6 : D.pl ≤ 6 := by
          rw [hR.pl]
          split
          · rename_i hr; exact (right_pl _ hr).2
          · omega
        have hlen := hR.len
        have htk := hR.tk
        refine WC_skip ?_
        refine thenE_normal ?_
        refine WC_cut (fun (s : Dk × List Mv × Option Addr × Nat) f w' => Rel (fewG g) s.1 s.2.1 (i + 1) ∧ f 22 = .int .i64 i ∧ f 8 = .pointer (some ⟨b8, 0, none⟩) ∧ f 21 = .int .i64 acts.length ∧ f 20 = .slice AA acts.length cA ∧ f 5 = .pointer (some ⟨d, 0, none⟩) ∧ f 6 = .pointer (some ⟨b19, 0, none⟩) ∧ St W [] [blk b8 (acts[i]).enc 55, refc b19 (fewG g) A2 ca2 B2 cb2 s.2.2.1 s.2.2.2 (s.2.1) (s.1).tick, deskc d b0 (s.1), blk b2 ((fewG g).val A1 ca1 B1 cb1) 26] [Go.HW.cells A2 (encs Cel.enc (fewG g).cells), Go.HW.cells B2 (encs Cd.enc (fewG g).code), Go.HW.cells AA (encs Ac.enc acts)] w') ?_ ?_
        · refine WC_seq ?_
          refine WC_region ?_
          refine WL_x (x_fieldAddr (n := 0) (o' := 0) Try.underlying55 rfl (by kernel_rfl) rfl rfl) ?_
          refine WL_x (x_load (v := .int .u8 _) Try.underlying5 rfl rfl (H.cellAt (l := (acts[i]).enc) .zero rfl)) ?_
          refine WL_x (x_binop rfl rfl (r_rem_nat (by omega) (by omega))) ?_
          refine WL_nil ?_
          refine thenE_normal ?_
          refine WC_block ?_
          refine WC_cut (fun (_ : Unit) f w' => f 60 = .bool (decide ((acts[i]).d % 7 = 4 ∨ (acts[i]).d % 7 = 5)) ∧ f 31 = .int .u8 ((acts[i]).d % 7) ∧ f 22 = .int .i64 i ∧ f 8 = .pointer (some ⟨b8, 0, none⟩) ∧ f 21 = .int .i64 acts.length ∧ f 20 = .slice AA acts.length cA ∧ f 5 = .pointer (some ⟨d, 0, none⟩) ∧ f 6 = .pointer (some ⟨b19, 0, none⟩) ∧ St W [] [blk b8 (acts[i]).enc 55, refc b19 (fewG g) A2 ca2 B2 cb2 AL cL (L) (D).tick, deskc d b0 (D), blk b2 ((fewG g).val A1 ca1 B1 cb1) 26] [Go.HW.cells A2 (encs Cel.enc (fewG g).cells), Go.HW.cells B2 (encs Cd.enc (fewG g).code), Go.HW.cells AA (encs Ac.enc acts)] w') ?_ ?_
          · refine WC_seq ?_
            refine WC_region ?_
            refine WL_x (x_binop rfl rfl (r_eql _ _ _ _)) ?_
            refine WL_x (x_assign (v := .bool _) rfl) ?_
            refine WL_nil ?_
            refine thenE_normal ?_
            refine WC_ifd rfl (fun h60 => ?_) (fun h60 => ?_)
            · refine WC_skip ?_
              refine thenE_normal ?_
              exact ⟨(), congrArg Value.bool (decide_eq_decide.2 (by omega)), rfl, rfl, rfl, rfl, rfl, rfl, rfl, H⟩
            · refine WC_region ?_
              refine WL_x (x_binop rfl rfl (r_eql _ _ _ _)) ?_
              refine WL_x (x_assign (v := .bool _) rfl) ?_
              refine WL_nil ?_
              refine thenE_normal ?_
              exact ⟨(), congrArg Value.bool (decide_eq_decide.2 (by omega)), rfl, rfl, rfl, rfl, rfl, rfl, rfl, H⟩
          · clear H
            rintro _ f w ⟨h60, h31, h22, h8, h21, h20, h5, h6, H⟩
            rw [← upd_self h60, ← upd_self h31, ← upd_self h22, ← upd_self h8, ← upd_self h21, ← upd_self h20, ← upd_self h5, ← upd_self h6]
            refine WC_ifd rfl (fun h60 => ?_) (fun h60 => ?_)
            · refine WC_seq ?_
              refine WC_region ?_
              refine WL_x (x_move (v := .pointer _) rfl) ?_
              refine WL_call (vs := [.pointer _]) Try.func14 rfl rfl rfl (take_ok _ d b0 D (H.ok _ (Has.mem (.succ (.succ .zero)))) hR.ok (by omega)) ?_
              rintro _ w ⟨X1, c1, rfl, hf, hok, hokr, hfr⟩
              refine ⟨_, rfl, ?_⟩
              replace H := H.turnNew (.succ (.succ .zero)) hf (fun _ h => .inl h) hok (fun _ h => h) hokr hfr
              have hnx : nextR D.tick = (takeD D).tick := (hR.next (by omega)).2.trans (hR.next (by omega)).1.symm
              refine WL_x (x_move (v := .pointer _) rfl) ?_
              refine WL_call (vs := [.pointer _]) Try.func21 rfl rfl rfl (rtake_ok _ b19 (fewG g) A2 B2 ca2 cb2 AL cL L D.tick (H.ok _ (Has.mem (.succ (.succ .zero)))) (by omega) (H.rget (Has.mem .zero)) (H.rget (Has.mem (.succ .zero))) hG (fun b hb => ⟨H.apartR (.succ (.succ .zero)) .zero b hb, H.apartR (.succ (.succ .zero)) (.succ .zero) b hb⟩) (fun hr => by have := (right_pl _ hr).2; omega) (by omega)) ?_
              rintro _ w ⟨AL2, cL2, Y1, c2, rfl, hf, hok, hfp, hokr, hfr⟩
              refine ⟨_, rfl, ?_⟩
              replace H := H.turnNew2 (.succ (.succ .zero)) hf (fun _ h => .inl h) hok hfp hokr hfr
              have hTl : (takeL D).length ≤ maxLen := by rw [takeL_len]; simp only [maxLen]; omega
              refine WL_call (vs := [.slice _ _ _, .slice _ _ _]) Try.func20 rfl rfl rfl (equal_u32 _ _ _ X1 Y1 c1 c2 _ _ rfl rfl (H.ocells (.succ .zero)) (H.ocells .zero) hTl) ?_
              rintro _ w ⟨rfl, hf⟩
              refine ⟨_, rfl, ?_⟩
              replace H := H.quiet hf
              rw [decide_eq_true (hR.takeL (by omega))]
              refine WL_x (x_not rfl) ?_
              refine WL_nil ?_
              refine thenE_normal ?_
              refine WC_no rfl ?_
              refine WC_skip ?_
              refine inBlockE_normal ?_
              refine thenE_normal ?_
              first
                | exact ⟨(takeD D, rleft (fewG g) L D.tick, AL2, cL2), hR.take (by omega), rfl, rfl, rfl, rfl, rfl, rfl, hnx ▸ H.pop.pop⟩
                | exact ⟨(dropD D (acts[i]).p, dropL L (acts[i]).p, AL2, cL2), (hR.drop _).mono (by omega), rfl, rfl, rfl, rfl, rfl, rfl, H⟩
                | exact ⟨(putD D (acts[i]).p t9 (acts[i]).m, rputL (fewG g) L D.tick (acts[i]).p t9 (acts[i]).m, AL2, cL2), hR.put _ _ _, rfl, rfl, rfl, rfl, rfl, rfl, by simp only [put_tick]; exact H⟩
            · refine WC_seq ?_
              refine WC_region ?_
              refine WL_x (x_binop rfl rfl (r_eql _ _ _ _)) ?_
              refine WL_x (x_assign (v := .bool _) rfl) ?_
              refine WL_nil ?_
              refine thenE_normal ?_
              refine WC_ifd rfl (fun h69 => ?_) (fun h69 => ?_)
              · refine WC_seq ?_
                refine WC_drawS (m := 9) (listed := [false, false, false, false, false, false, false, false, false]) (fun w => Blk w b8 (acts[i]).enc 55) 9 (by kernel_rfl) rfl rfl H (fun w H => H.get (Has.mem .zero)) ?_
                intro w H HS
                refine WG_take (i := 0) (listed' := [true, false, false, false, false, false, false, false, false]) rfl (by kernel_rfl) (fun w HS => x_move (v := .pointer _) rfl) HS rfl ?_
                refine WG_take (i := 1) (listed' := [true, true, false, false, false, false, false, false, false]) rfl (by kernel_rfl) (fun w HS => x_fieldAddr (n := 0) (o' := 1) Try.underlying55 rfl (by kernel_rfl) rfl rfl) HS rfl ?_
                refine WG_take (i := 2) (listed' := [true, true, true, false, false, false, false, false, false]) rfl (by kernel_rfl) (fun w HS => x_load (v := .int .i64 _) Try.underlying3 rfl rfl ((HS.cell 1).trans rfl)) HS rfl ?_
                refine WG_take (i := 4) (listed' := [true, true, true, false, true, false, false, false, false]) rfl (by kernel_rfl) (fun w HS => x_move (v := .pointer _) rfl) HS rfl ?_
                refine WG_take (i := 5) (listed' := [true, true, true, false, true, true, false, false, false]) rfl (by kernel_rfl) (fun w HS => x_fieldAddr (n := 0) (o' := 1) Try.underlying55 rfl (by kernel_rfl) rfl rfl) HS rfl ?_
                refine WG_take (i := 6) (listed' := [true, true, true, false, true, true, true, false, false]) rfl (by kernel_rfl) (fun w HS => x_load (v := .int .i64 _) Try.underlying3 rfl rfl ((HS.cell 1).trans rfl)) HS rfl ?_
                refine WG_mid (i := 3) (listed' := [true, true, true, true, true, true, true, false, false]) rfl rfl (by kernel_rfl) rfl rfl ?_
                refine WL_call (vs := [.pointer _, .int .i64 _]) Try.func18 rfl rfl rfl (drop_ok _ d b0 D (acts[i]).p (H.ok _ (Has.mem (.succ (.succ .zero)))) hR.ok hR.inv ⟨p0, p1⟩) ?_
                rintro _ w ⟨rfl, hf, hok⟩
                refine ⟨_, rfl, ?_⟩
                replace H := H.turn (.succ (.succ .zero)) hf (fun _ h => .inl h) hok (fun _ h => .inl h)
                have hl8 := heldL_len D (acts[i]).p
                refine WL_nil ?_
                have HS := (H.get (c := blk b8 (acts[i]).enc 55) (Has.mem .zero) : Blk _ b8 (acts[i]).enc 55)
                refine mid_mk HS ?_
                refine WG_mid (i := 7) (listed' := [true, true, true, true, true, true, true, true, false]) rfl rfl (by kernel_rfl) rfl rfl ?_
                refine WL_call (vs := [.pointer _, .int .i64 _]) Try.func22 rfl rfl rfl (rdrop_ok _ b19 (fewG g) A2 B2 ca2 cb2 AL cL L D.tick (acts[i]).p (H.ok _ (Has.mem (.succ .zero))) (by omega)) ?_
                rintro _ w ⟨AL2, cL2, rfl, hf, hok, hfp⟩
                refine ⟨_, rfl, ?_⟩
                replace H := H.turn (.succ .zero) hf (fun _ h => .inl h) hok hfp
                refine WL_nil ?_
                have HS := (H.get (c := blk b8 (acts[i]).enc 55) (Has.mem .zero) : Blk _ b8 (acts[i]).enc 55)
                refine mid_mk HS ?_
                refine WG_take (i := 8) (listed' := [true, true, true, true, true, true, true, true, true]) rfl (by kernel_rfl) (fun w HS => x_binop rfl rfl (r_neq _ _ _ _)) HS rfl ?_
                refine WG_done (by kernel_rfl) ?_
                refine thenE_normal ?_
                refine WC_ifd rfl (fun h79 => ?_) (fun h79 => ?_)
                · exact absurd (hR.count _) h79
                · refine WC_skip ?_
                  refine inBlockE_normal ?_
                  refine thenE_normal ?_
                  first
                    | exact ⟨(takeD D, rleft (fewG g) L D.tick, AL2, cL2), hR.take (by omega), rfl, rfl, rfl, rfl, rfl, rfl, hnx ▸ H.pop.pop⟩
                    | exact ⟨(dropD D (acts[i]).p, dropL L (acts[i]).p, AL2, cL2), (hR.drop _).mono (by omega), rfl, rfl, rfl, rfl, rfl, rfl, H⟩
                    | exact ⟨(putD D (acts[i]).p t9 (acts[i]).m, rputL (fewG g) L D.tick (acts[i]).p t9 (acts[i]).m, AL2, cL2), hR.put _ _ _, rfl, rfl, rfl, rfl, rfl, rfl, by simp only [put_tick]; exact H⟩
              · refine WC_seq ?_
                refine WC_region ?_
                refine WL_x (x_fieldAddr (n := 0) (o' := 2) Try.underlying55 rfl (by kernel_rfl) rfl rfl) ?_
                refine WL_x (x_load (v := .int .u32 _) Try.underlying22 rfl rfl (H.cellAt (l := (acts[i]).enc) .zero rfl)) ?_
                refine WL_x (x_assign (v := .int .u32 _) rfl) ?_
                refine WL_nil ?_
                refine thenE_normal ?_
                refine WC_cut (fun (t9 : Int) f w' => (0 ≤ t9 ∧ t9 ≤ 4294967295) ∧ f 9 = .int .u32 t9 ∧ f 22 = .int .i64 i ∧ f 8 = .pointer (some ⟨b8, 0, none⟩) ∧ f 21 = .int .i64 acts.length ∧ f 20 = .slice AA acts.length cA ∧ f 5 = .pointer (some ⟨d, 0, none⟩) ∧ f 6 = .pointer (some ⟨b19, 0, none⟩) ∧ St W [] [blk b8 (acts[i]).enc 55, refc b19 (fewG g) A2 ca2 B2 cb2 AL cL (L) (D).tick, deskc d b0 (D), blk b2 ((fewG g).val A1 ca1 B1 cb1) 26] [Go.HW.cells A2 (encs Cel.enc (fewG g).cells), Go.HW.cells B2 (encs Cd.enc (fewG g).code), Go.HW.cells AA (encs Ac.enc acts)] w') ?_ ?_
                · refine WC_seq ?_
                  refine WC_region ?_
                  refine WL_x (x_fieldAddr (n := 0) (o' := 3) Try.underlying55 rfl (by kernel_rfl) rfl rfl) ?_
                  refine WL_x (x_load (v := .bool _) Try.underlying4 rfl rfl (H.cellAt (l := (acts[i]).enc) .zero rfl)) ?_
                  refine WL_nil ?_
                  refine thenE_normal ?_
                  refine WC_if rfl (fun h35 => ?_) (fun h35 => ?_)
                  · refine WC_drawH (m := 10) (listed := [false, false, false, false, false, false, false, false, false, false]) 10 (by kernel_rfl) rfl rfl H ?_
                    intro w H
                    refine WG_take (i := 0) (listed' := [true, false, false, false, false, false, false, false, false, false]) rfl (by kernel_rfl) (fun w H => x_move (v := .pointer _) rfl) H rfl ?_
                    refine WG_take (i := 1) (listed' := [true, true, false, false, false, false, false, false, false, false]) rfl (by kernel_rfl) (fun w H => x_nilCheck rfl) H rfl ?_
                    refine WG_take (i := 2) (listed' := [true, true, true, false, false, false, false, false, false, false]) rfl (by kernel_rfl) (fun w H => x_fieldAddr (n := 0) (o' := _ + 7) Try.underlying53 rfl (by kernel_rfl) rfl rfl) H rfl ?_
                    refine WG_take (i := 3) (listed' := [true, true, true, true, false, false, false, false, false, false]) rfl (by kernel_rfl) (fun w H => x_load (v := .int .u32 _) Try.underlying22 rfl rfl (H.cellBoth (.succ .zero) rfl)) H rfl ?_
                    refine WG_take (i := 4) (listed' := [true, true, true, true, true, false, false, false, false, false]) rfl (by kernel_rfl) (fun w H => x_fieldAddr (n := 0) (o' := 2) Try.underlying55 rfl (by kernel_rfl) rfl rfl) H rfl ?_
                    refine WG_take (i := 5) (listed' := [true, true, true, true, true, true, false, false, false, false]) rfl (by kernel_rfl) (fun w H => x_load (v := .int .u32 _) Try.underlying22 rfl rfl (H.cellAt (l := (acts[i]).enc) .zero rfl)) H rfl ?_
                    refine WG_take (i := 6) (listed' := [true, true, true, true, true, true, true, false, false, false]) rfl (by kernel_rfl) (fun w H => x_binop rfl rfl (r_rem_nat (by omega) (by omega))) H rfl ?_
                    refine WG_take (i := 7) (listed' := [true, true, true, true, true, true, true, true, false, false]) rfl (by kernel_rfl) (fun w H => x_binop rfl rfl (r_add _ _ _ _)) H rfl ?_
                    refine WG_take (i := 8) (listed' := [true, true, true, true, true, true, true, true, true, false]) rfl (by kernel_rfl) (fun w H => x_binop rfl rfl (r_sub _ _ _ _)) H rfl ?_
                    refine WG_take (i := 9) (listed' := [true, true, true, true, true, true, true, true, true, true]) rfl (by kernel_rfl) (fun w H => x_assign (v := .int .u32 _) rfl) H rfl ?_
                    refine WG_done (by kernel_rfl) ?_
                    refine thenE_normal ?_
                    first
                      | exact ⟨IntKind.u32.wrap (IntKind.u32.wrap (D.tick + (acts[i]).t % 12) - 2), by rw [IntKind.wrap_u32]; omega, rfl, rfl, rfl, rfl, rfl, rfl, rfl, H⟩
                      | exact ⟨(acts[i]).t, ⟨t0, t1⟩, rfl, rfl, rfl, rfl, rfl, rfl, rfl, H⟩
                  · refine WC_skip ?_
                    refine thenE_normal ?_
                    first
                      | exact ⟨IntKind.u32.wrap (IntKind.u32.wrap (D.tick + (acts[i]).t % 12) - 2), by rw [IntKind.wrap_u32]; omega, rfl, rfl, rfl, rfl, rfl, rfl, rfl, H⟩
                      | exact ⟨(acts[i]).t, ⟨t0, t1⟩, rfl, rfl, rfl, rfl, rfl, rfl, rfl, H⟩
                · clear H
                  rintro t9 f w ⟨ht9, h9, h22, h8, h21, h20, h5, h6, H⟩
                  rw [← upd_self h9, ← upd_self h22, ← upd_self h8, ← upd_self h21, ← upd_self h20, ← upd_self h5, ← upd_self h6]
                  refine WC_seq ?_
                  refine WC_drawS (m := 15) (listed := [false, false, false, false, false, false, false, false, false, false, false, false, false, false, false]) (fun w => Blk w b8 (acts[i]).enc 55) 15 (by kernel_rfl) rfl rfl H (fun w H => H.get (Has.mem .zero)) ?_
                  intro w H HS
                  refine WG_take (i := 0) (listed' := [true, false, false, false, false, false, false, false, false, false, false, false, false, false, false]) rfl (by kernel_rfl) (fun w HS => x_move (v := .pointer _) rfl) HS rfl ?_
                  refine WG_take (i := 1) (listed' := [true, true, false, false, false, false, false, false, false, false, false, false, false, false, false]) rfl (by kernel_rfl) (fun w HS => x_fieldAddr (n := 0) (o' := 1) Try.underlying55 rfl (by kernel_rfl) rfl rfl) HS rfl ?_
                  refine WG_take (i := 2) (listed' := [true, true, true, false, false, false, false, false, false, false, false, false, false, false, false]) rfl (by kernel_rfl) (fun w HS => x_load (v := .int .i64 _) Try.underlying3 rfl rfl ((HS.cell 1).trans rfl)) HS rfl ?_
                  refine WG_take (i := 3) (listed' := [true, true, true, true, false, false, false, false, false, false, false, false, false, false, false]) rfl (by kernel_rfl) (fun w HS => x_move (v := .int .u32 _) rfl) HS rfl ?_
                  refine WG_take (i := 4) (listed' := [true, true, true, true, true, false, false, false, false, false, false, false, false, false, false]) rfl (by kernel_rfl) (fun w HS => x_fieldAddr (n := 0) (o' := 4) Try.underlying55 rfl (by kernel_rfl) rfl rfl) HS rfl ?_
                  refine WG_take (i := 5) (listed' := [true, true, true, true, true, true, false, false, false, false, false, false, false, false, false]) rfl (by kernel_rfl) (fun w HS => x_load (v := .int .u32 _) Try.underlying22 rfl rfl ((HS.cell 4).trans rfl)) HS rfl ?_
                  refine WG_take (i := 7) (listed' := [true, true, true, true, true, true, false, true, false, false, false, false, false, false, false]) rfl (by kernel_rfl) (fun w HS => x_move (v := .pointer _) rfl) HS rfl ?_
                  refine WG_take (i := 8) (listed' := [true, true, true, true, true, true, false, true, true, false, false, false, false, false, false]) rfl (by kernel_rfl) (fun w HS => x_fieldAddr (n := 0) (o' := 1) Try.underlying55 rfl (by kernel_rfl) rfl rfl) HS rfl ?_
                  refine WG_take (i := 9) (listed' := [true, true, true, true, true, true, false, true, true, true, false, false, false, false, false]) rfl (by kernel_rfl) (fun w HS => x_load (v := .int .i64 _) Try.underlying3 rfl rfl ((HS.cell 1).trans rfl)) HS rfl ?_
                  refine WG_take (i := 10) (listed' := [true, true, true, true, true, true, false, true, true, true, true, false, false, false, false]) rfl (by kernel_rfl) (fun w HS => x_move (v := .int .u32 _) rfl) HS rfl ?_
                  refine WG_take (i := 11) (listed' := [true, true, true, true, true, true, false, true, true, true, true, true, false, false, false]) rfl (by kernel_rfl) (fun w HS => x_fieldAddr (n := 0) (o' := 4) Try.underlying55 rfl (by kernel_rfl) rfl rfl) HS rfl ?_
                  refine WG_take (i := 12) (listed' := [true, true, true, true, true, true, false, true, true, true, true, true, true, false, false]) rfl (by kernel_rfl) (fun w HS => x_load (v := .int .u32 _) Try.underlying22 rfl rfl ((HS.cell 4).trans rfl)) HS rfl ?_
                  refine WG_mid (i := 6) (listed' := [true, true, true, true, true, true, true, true, true, true, true, true, true, false, false]) rfl rfl (by kernel_rfl) rfl rfl ?_
                  refine WL_call (vs := [.pointer _, .int .i64 _, .int .u32 _, .int .u32 _]) Try.func13 rfl rfl rfl (put_ok _ d b0 D (acts[i]).p t9 (acts[i]).m (H.ok _ (Has.mem (.succ (.succ .zero)))) hR.ok ⟨p0, p1⟩ ht9) ?_
                  rintro _ w ⟨rfl, hf, hok⟩
                  refine ⟨_, rfl, ?_⟩
                  replace H := H.turn (.succ (.succ .zero)) hf (fun _ h => .inl h) hok (fun _ h => .inl h)
                  refine WL_nil ?_
                  have HS := (H.get (c := blk b8 (acts[i]).enc 55) (Has.mem .zero) : Blk _ b8 (acts[i]).enc 55)
                  refine mid_mk HS ?_
                  refine WG_mid (i := 13) (listed' := [true, true, true, true, true, true, true, true, true, true, true, true, true, true, false]) rfl rfl (by kernel_rfl) rfl rfl ?_
                  refine WL_call (vs := [.pointer _, .int .i64 _, .int .u32 _, .int .u32 _]) Try.func23 rfl rfl rfl (rput_ok _ b19 (fewG g) A2 B2 ca2 cb2 AL cL L D.tick (acts[i]).p t9 (acts[i]).m (H.ok _ (Has.mem (.succ .zero))) (by omega) (H.rget (Has.mem .zero)) (H.rget (Has.mem (.succ .zero))) hG (fun b hb => ⟨H.apartR (.succ .zero) .zero b hb, H.apartR (.succ .zero) (.succ .zero) b hb⟩) ⟨p0, p1⟩ (by omega) ht9) ?_
                  rintro _ w ⟨AL2, cL2, rfl, hf, hok, hfp⟩
                  refine ⟨_, rfl, ?_⟩
                  replace H := H.turn (.succ .zero) hf (fun _ h => .inl h) hok hfp
                  refine WL_nil ?_
                  have HS := (H.get (c := blk b8 (acts[i]).enc 55) (Has.mem .zero) : Blk _ b8 (acts[i]).enc 55)
                  refine mid_mk HS ?_
                  refine WG_take (i := 14) (listed' := [true, true, true, true, true, true, true, true, true, true, true, true, true, true, true]) rfl (by kernel_rfl) (fun w HS => x_binop rfl rfl (r_neq _ _ _ _)) HS rfl ?_
                  refine WG_done (by kernel_rfl) ?_
                  refine thenE_normal ?_
                  refine WC_ifd rfl (fun h59 => ?_) (fun h59 => ?_)
                  · exact absurd (hR.putE _ _ _) h59
                  · refine WC_skip ?_
                    refine inBlockE_normal ?_
                    refine thenE_normal ?_
                    first
                      | exact ⟨(takeD D, rleft (fewG g) L D.tick, AL2, cL2), hR.take (by omega), rfl, rfl, rfl, rfl, rfl, rfl, hnx ▸ H.pop.pop⟩
                      | exact ⟨(dropD D (acts[i]).p, dropL L (acts[i]).p, AL2, cL2), (hR.drop _).mono (by omega), rfl, rfl, rfl, rfl, rfl, rfl, H⟩
                      | exact ⟨(putD D (acts[i]).p t9 (acts[i]).m, rputL (fewG g) L D.tick (acts[i]).p t9 (acts[i]).m, AL2, cL2), hR.put _ _ _, rfl, rfl, rfl, rfl, rfl, rfl, by simp only [put_tick]; exact H⟩
        · clear H hR hpl6 hlen htk
          rintro ⟨D, L, AL, cL⟩ f w ⟨hR, h22, h8, h21, h20, h5, h6, H⟩
          simp only at hR h22 h8 h21 h20 h5 h6 H
          rw [← upd_self h22, ← upd_self h8, ← upd_self h21, ← upd_self h20, ← upd_self h5, ← upd_self h6]
          have hlen := hR.len
          have htk := hR.tk
          refine WC_seq ?_
          refine WC_drawS (m := 27) (listed := [false, false, false, false, false, false, false, false, false, false, false, false, false, false, false, false, false, false, false, false, false, false, false, false, false, false, false]) (fun w => Blk w b19 (gvD (fewG g) A2 ca2 B2 cb2 AL cL L.length D.tick) 53 ∧ Blk w b8 (acts[i]).enc 55) 27 (by kernel_rfl) rfl rfl H (fun w H => (⟨(H.get (c := refc b19 (fewG g) A2 ca2 B2 cb2 AL cL (L) (D).tick) (Has.mem (.succ .zero))).1, H.get (c := blk b8 (acts[i]).enc 55) (Has.mem .zero)⟩ : Blk _ b19 (gvD (fewG g) A2 ca2 B2 cb2 AL cL L.length D.tick) 53 ∧ Blk _ b8 (acts[i]).enc 55)) ?_
          intro w H HS
          refine WG_take (i := 0) (listed' := [true, false, false, false, false, false, false, false, false, false, false, false, false, false, false, false, false, false, false, false, false, false, false, false, false, false, false]) rfl (by kernel_rfl) (fun w HS => x_move (v := .pointer _) rfl) HS rfl ?_
          refine WG_take (i := 2) (listed' := [true, false, true, false, false, false, false, false, false, false, false, false, false, false, false, false, false, false, false, false, false, false, false, false, false, false, false]) rfl (by kernel_rfl) (fun w HS => x_move (v := .pointer _) rfl) HS rfl ?_
          refine WG_take (i := 3) (listed' := [true, false, true, true, false, false, false, false, false, false, false, false, false, false, false, false, false, false, false, false, false, false, false, false, false, false, false]) rfl (by kernel_rfl) (fun w HS => x_nilCheck rfl) HS rfl ?_
          refine WG_take (i := 4) (listed' := [true, false, true, true, true, false, false, false, false, false, false, false, false, false, false, false, false, false, false, false, false, false, false, false, false, false, false]) rfl (by kernel_rfl) (fun w HS => x_fieldAddr (n := 0) (o' := _ + 7) Try.underlying53 rfl (by kernel_rfl) rfl rfl) HS rfl ?_
          refine WG_take (i := 5) (listed' := [true, false, true, true, true, true, false, false, false, false, false, false, false, false, false, false, false, false, false, false, false, false, false, false, false, false, false]) rfl (by kernel_rfl) (fun w HS => x_load (v := .int .u32 _) Try.underlying22 rfl rfl ((HS.1.cell 7).trans rfl)) HS rfl ?_
          refine WG_mid (i := 1) (listed' := [true, true, true, true, true, true, false, false, false, false, false, false, false, false, false, false, false, false, false, false, false, false, false, false, false, false, false]) rfl rfl (by kernel_rfl) rfl rfl ?_
          refine WL_call (vs := [.pointer _]) Try.func16 rfl rfl rfl (tick_ok _ d b0 D (H.ok _ (Has.mem (.succ (.succ .zero)))) hR.ok) ?_
          rintro _ w ⟨rfl, hf, hok⟩
          refine ⟨_, rfl, ?_⟩
          replace H := H.turn (.succ (.succ .zero)) hf (fun _ h => .inl h) hok (fun _ h => .inl h)
          refine WL_nil ?_
          have HS := (⟨(H.get (c := refc b19 (fewG g) A2 ca2 B2 cb2 AL cL (L) (D).tick) (Has.mem (.succ .zero))).1, H.get (c := blk b8 (acts[i]).enc 55) (Has.mem .zero)⟩ : Blk _ b19 (gvD (fewG g) A2 ca2 B2 cb2 AL cL L.length D.tick) 53 ∧ Blk _ b8 (acts[i]).enc 55)
          refine mid_mk HS ?_
          refine WG_take (i := 6) (listed' := [true, true, true, true, true, true, true, false, false, false, false, false, false, false, false, false, false, false, false, false, false, false, false, false, false, false, false]) rfl (by kernel_rfl) (fun w HS => x_binop rfl rfl (r_neq _ _ _ _)) HS rfl ?_
          refine WG_take (i := 7) (listed' := [true, true, true, true, true, true, true, true, false, false, false, false, false, false, false, false, false, false, false, false, false, false, false, false, false, false, false]) rfl (by kernel_rfl) (fun w HS => x_move (v := .bool _) rfl) HS rfl ?_
          first | refine WG_cased (t := 87) rfl (fun h87 => ?_) (fun h87 => ?_) | refine WG_casen (t := 87) rfl (fun h87 => ?_) (fun h87 => ?_) | refine WG_case (t := 87) rfl (fun h87 => ?_) (fun h87 => ?_)
          · exact absurd rfl h87
          · refine WG_takeG (i := 8) (listed' := [true, true, true, true, true, true, true, true, true, false, false, false, false, false, false, false, false, false, false, false, false, false, false, false, false, false, false]) rfl (by kernel_rfl) rfl rfl rfl (fun w HS => x_move (v := .pointer _) rfl) HS rfl ?_
            refine WG_takeG (i := 9) (listed' := [true, true, true, true, true, true, true, true, true, true, false, false, false, false, false, false, false, false, false, false, false, false, false, false, false, false, false]) rfl (by kernel_rfl) rfl rfl rfl (fun w HS => x_fieldAddr (n := 0) (o' := 1) Try.underlying55 rfl (by kernel_rfl) rfl rfl) HS rfl ?_
            refine WG_takeG (i := 10) (listed' := [true, true, true, true, true, true, true, true, true, true, true, false, false, false, false, false, false, false, false, false, false, false, false, false, false, false, false]) rfl (by kernel_rfl) rfl rfl rfl (fun w HS => x_load (v := .int .i64 _) Try.underlying3 rfl rfl ((HS.2.cell 1).trans rfl)) HS rfl ?_
            refine WG_takeG (i := 12) (listed' := [true, true, true, true, true, true, true, true, true, true, true, false, true, false, false, false, false, false, false, false, false, false, false, false, false, false, false]) rfl (by kernel_rfl) rfl rfl rfl (fun w HS => x_move (v := .pointer _) rfl) HS rfl ?_
            refine WG_takeG (i := 13) (listed' := [true, true, true, true, true, true, true, true, true, true, true, false, true, true, false, false, false, false, false, false, false, false, false, false, false, false, false]) rfl (by kernel_rfl) rfl rfl rfl (fun w HS => x_fieldAddr (n := 0) (o' := 1) Try.underlying55 rfl (by kernel_rfl) rfl rfl) HS rfl ?_
            refine WG_takeG (i := 14) (listed' := [true, true, true, true, true, true, true, true, true, true, true, false, true, true, true, false, false, false, false, false, false, false, false, false, false, false, false]) rfl (by kernel_rfl) rfl rfl rfl (fun w HS => x_load (v := .int .i64 _) Try.underlying3 rfl rfl ((HS.2.cell 1).trans rfl)) HS rfl ?_
            refine WG_midG (i := 11) (listed' := [true, true, true, true, true, true, true, true, true, true, true, true, true, true, true, false, false, false, false, false, false, false, false, false, false, false, false]) rfl rfl rfl rfl rfl (by kernel_rfl) rfl rfl ?_
            refine WL_guard_yes rfl rfl rfl ?_
            refine WL_call (vs := [.pointer _, .int .i64 _]) Try.func17 rfl rfl rfl (held_ok _ d b0 D (acts[i]).p (H.ok _ (Has.mem (.succ (.succ .zero)))) hR.inv) ?_
            rintro _ w ⟨X1, cX1, rfl, hf, hok, hokr, hfr⟩
            refine ⟨_, rfl, ?_⟩
            replace H := H.turnNew (.succ (.succ .zero)) hf (fun _ h => .inl h) hok (fun _ h => h) hokr hfr
            refine WL_nil ?_
            have HS := (⟨(H.get (c := refc b19 (fewG g) A2 ca2 B2 cb2 AL cL (L) (D).tick) (Has.mem (.succ (.succ .zero)))).1, H.get (c := blk b8 (acts[i]).enc 55) (Has.mem (.succ .zero))⟩ : Blk _ b19 (gvD (fewG g) A2 ca2 B2 cb2 AL cL L.length D.tick) 53 ∧ Blk _ b8 (acts[i]).enc 55)
            refine mid_mk HS ?_
            refine WG_midG (i := 15) (listed' := [true, true, true, true, true, true, true, true, true, true, true, true, true, true, true, true, false, false, false, false, false, false, false, false, false, false, false]) rfl rfl rfl rfl rfl (by kernel_rfl) rfl rfl ?_
            refine WL_guard_yes rfl rfl rfl ?_
            refine WL_call (vs := [.pointer _, .int .i64 _]) Try.func24 rfl rfl rfl (rheld_ok _ b19 (fewG g) A2 B2 ca2 cb2 AL cL L D.tick (acts[i]).p (H.ok _ (Has.mem (.succ (.succ .zero)))) (by omega) (by omega)) ?_
            rintro _ w ⟨X2, cX2, rfl, hf, hok, hokr, hfr⟩
            refine ⟨_, rfl, ?_⟩
            replace H := H.turnNew (.succ (.succ .zero)) hf (fun _ h => .inl h) hok (fun _ h => h) hokr hfr
            refine WL_nil ?_
            have HS := (⟨(H.get (c := refc b19 (fewG g) A2 ca2 B2 cb2 AL cL (L) (D).tick) (Has.mem (.succ (.succ (.succ .zero))))).1, H.get (c := blk b8 (acts[i]).enc 55) (Has.mem (.succ (.succ .zero)))⟩ : Blk _ b19 (gvD (fewG g) A2 ca2 B2 cb2 AL cL L.length D.tick) 53 ∧ Blk _ b8 (acts[i]).enc 55)
            refine mid_mk HS ?_
            refine WG_midG (i := 16) (listed' := [true, true, true, true, true, true, true, true, true, true, true, true, true, true, true, true, true, false, false, false, false, false, false, false, false, false, false]) rfl rfl rfl rfl rfl (by kernel_rfl) rfl rfl ?_
            refine WL_guard_yes rfl rfl rfl ?_
            refine WL_call (vs := [.slice _ _ _, .slice _ _ _]) Try.func20 rfl rfl rfl (equal_u32 _ _ _ X1 X2 cX1 cX2 _ _ rfl rfl (H.ocells (.succ .zero)) (H.ocells .zero) (by have := heldL_len D (acts[i]).p; simp only [maxLen]; omega)) ?_
            rintro _ w ⟨rfl, hf⟩
            refine ⟨_, rfl, ?_⟩
            replace H := H.quiet hf
            rw [decide_eq_true (hR.held _)]
            refine WL_nil ?_
            have HS := (⟨(H.get (c := refc b19 (fewG g) A2 ca2 B2 cb2 AL cL (L) (D).tick) (Has.mem (.succ (.succ (.succ .zero))))).1, H.get (c := blk b8 (acts[i]).enc 55) (Has.mem (.succ (.succ .zero)))⟩ : Blk _ b19 (gvD (fewG g) A2 ca2 B2 cb2 AL cL L.length D.tick) 53 ∧ Blk _ b8 (acts[i]).enc 55)
            refine mid_mk HS ?_
            refine WG_takeG (i := 17) (listed' := [true, true, true, true, true, true, true, true, true, true, true, true, true, true, true, true, true, true, false, false, false, false, false, false, false, false, false]) rfl (by kernel_rfl) rfl rfl rfl (fun w HS => x_not rfl) HS rfl ?_
            refine WG_take (i := 18) (listed' := [true, true, true, true, true, true, true, true, true, true, true, true, true, true, true, true, true, true, true, false, false, false, false, false, false, false, false]) rfl (by kernel_rfl) (fun w HS => x_pick (v := .bool _) rfl rfl) HS rfl ?_
            refine WG_take (i := 19) (listed' := [true, true, true, true, true, true, true, true, true, true, true, true, true, true, true, true, true, true, true, true, false, false, false, false, false, false, false]) rfl (by kernel_rfl) (fun w HS => x_move (v := .bool _) rfl) HS rfl ?_
            refine WG_takeG (i := 20) (listed' := [true, true, true, true, true, true, true, true, true, true, true, true, true, true, true, true, true, true, true, true, true, false, false, false, false, false, false]) rfl (by kernel_rfl) rfl rfl rfl (fun w HS => x_move (v := .pointer _) rfl) HS rfl ?_
            refine WG_takeG (i := 22) (listed' := [true, true, true, true, true, true, true, true, true, true, true, true, true, true, true, true, true, true, true, true, true, false, true, false, false, false, false]) rfl (by kernel_rfl) rfl rfl rfl (fun w HS => x_move (v := .pointer _) rfl) HS rfl ?_
            refine WG_midG (i := 21) (listed' := [true, true, true, true, true, true, true, true, true, true, true, true, true, true, true, true, true, true, true, true, true, true, true, false, false, false, false]) rfl rfl rfl rfl rfl (by kernel_rfl) rfl rfl ?_
            refine WL_guard_yes rfl rfl rfl ?_
            refine WL_call (vs := [.pointer _, (.int .i64 0)]) Try.func17 rfl rfl rfl (held_ok _ d b0 D 0 (H.ok _ (Has.mem (.succ (.succ (.succ (.succ .zero)))))) hR.inv) ?_
            rintro _ w ⟨X3, cX3, rfl, hf, hok, hokr, hfr⟩
            refine ⟨_, rfl, ?_⟩
            replace H := H.turnNew (.succ (.succ (.succ (.succ .zero)))) hf (fun _ h => .inl h) hok (fun _ h => h) hokr hfr
            refine WL_nil ?_
            have HS := (⟨(H.get (c := refc b19 (fewG g) A2 ca2 B2 cb2 AL cL (L) (D).tick) (Has.mem (.succ (.succ (.succ (.succ .zero)))))).1, H.get (c := blk b8 (acts[i]).enc 55) (Has.mem (.succ (.succ (.succ .zero))))⟩ : Blk _ b19 (gvD (fewG g) A2 ca2 B2 cb2 AL cL L.length D.tick) 53 ∧ Blk _ b8 (acts[i]).enc 55)
            refine mid_mk HS ?_
            refine WG_midG (i := 23) (listed' := [true, true, true, true, true, true, true, true, true, true, true, true, true, true, true, true, true, true, true, true, true, true, true, true, false, false, false]) rfl rfl rfl rfl rfl (by kernel_rfl) rfl rfl ?_
            refine WL_guard_yes rfl rfl rfl ?_
            refine WL_call (vs := [.pointer _, (.int .i64 0)]) Try.func24 rfl rfl rfl (rheld_ok _ b19 (fewG g) A2 B2 ca2 cb2 AL cL L D.tick 0 (H.ok _ (Has.mem (.succ (.succ (.succ (.succ .zero)))))) (by omega) (by omega)) ?_
            rintro _ w ⟨X4, cX4, rfl, hf, hok, hokr, hfr⟩
            refine ⟨_, rfl, ?_⟩
            replace H := H.turnNew (.succ (.succ (.succ (.succ .zero)))) hf (fun _ h => .inl h) hok (fun _ h => h) hokr hfr
            refine WL_nil ?_
            have HS := (⟨(H.get (c := refc b19 (fewG g) A2 ca2 B2 cb2 AL cL (L) (D).tick) (Has.mem (.succ (.succ (.succ (.succ (.succ .zero))))))).1, H.get (c := blk b8 (acts[i]).enc 55) (Has.mem (.succ (.succ (.succ (.succ .zero)))))⟩ : Blk _ b19 (gvD (fewG g) A2 ca2 B2 cb2 AL cL L.length D.tick) 53 ∧ Blk _ b8 (acts[i]).enc 55)
            refine mid_mk HS ?_
            refine WG_midG (i := 24) (listed' := [true, true, true, true, true, true, true, true, true, true, true, true, true, true, true, true, true, true, true, true, true, true, true, true, true, false, false]) rfl rfl rfl rfl rfl (by kernel_rfl) rfl rfl ?_
            refine WL_guard_yes rfl rfl rfl ?_
            refine WL_call (vs := [.slice _ _ _, .slice _ _ _]) Try.func20 rfl rfl rfl (equal_u32 _ _ _ X3 X4 cX3 cX4 _ _ rfl rfl (H.ocells (.succ .zero)) (H.ocells .zero) (by have := heldL_len D 0; simp only [maxLen]; omega)) ?_
            rintro _ w ⟨rfl, hf⟩
            refine ⟨_, rfl, ?_⟩
            replace H := H.quiet hf
            rw [decide_eq_true (hR.held _)]
            refine WL_nil ?_
            have HS := (⟨(H.get (c := refc b19 (fewG g) A2 ca2 B2 cb2 AL cL (L) (D).tick) (Has.mem (.succ (.succ (.succ (.succ (.succ .zero))))))).1, H.get (c := blk b8 (acts[i]).enc 55) (Has.mem (.succ (.succ (.succ (.succ .zero)))))⟩ : Blk _ b19 (gvD (fewG g) A2 ca2 B2 cb2 AL cL L.length D.tick) 53 ∧ Blk _ b8 (acts[i]).enc 55)
            refine mid_mk HS ?_
            refine WG_takeG (i := 25) (listed' := [true, true, true, true, true, true, true, true, true, true, true, true, true, true, true, true, true, true, true, true, true, true, true, true, true, true, false]) rfl (by kernel_rfl) rfl rfl rfl (fun w HS => x_not rfl) HS rfl ?_
            refine WG_take (i := 26) (listed' := [true, true, true, true, true, true, true, true, true, true, true, true, true, true, true, true, true, true, true, true, true, true, true, true, true, true, true]) rfl (by kernel_rfl) (fun w HS => x_pick (v := .bool _) rfl rfl) HS rfl ?_
            refine WG_done (by kernel_rfl) ?_
            refine thenE_normal ?_
            refine WC_no rfl ?_
            refine WC_skip ?_
            refine inBlockE_normal ?_
            refine thenE_normal ?_
            refine WC_region ?_
            refine WL_x (x_binop rfl rfl (r_add_in (i64_in (by omega) (by omega)))) ?_
            refine WL_x (x_move (v := .int .i64 _) rfl) ?_
            refine WL_nil ?_
            refine thenE_normal ?_
            exact ⟨(i + 1, D, L, AL, cL), ⟨by simp only; omega, by simp only; omega, hR, rfl, rfl, rfl, rfl, rfl, H.pop.pop.pop.pop.pop⟩, by simp only; omega⟩
    · refine WC_exit ?_
      refine thenE_exit ?_
      refine thenE_exit ?_
      refine inBlockE_exit ?_
      refine thenE_normal ?_
      refine WC_seq ?_
      refine WC_region ?_
      refine WL_x (x_assign (v := (.bool true)) rfl) ?_
      refine WL_nil ?_
      refine thenE_normal ?_
      refine WC_ret ?_
      refine ends1 (v := .bool _) Try.results7 rfl ?_
      exact ⟨rfl, H.fr⟩
end Go.Proofs.Ytecdgmdkepiopaa
