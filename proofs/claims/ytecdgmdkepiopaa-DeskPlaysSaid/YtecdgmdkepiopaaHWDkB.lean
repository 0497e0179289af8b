import Derived.Test.YtecdgmdkepiopaaHWDkA
set_option linter.unusedSimpArgs false
set_option linter.unusedVariables false
set_option linter.unusedSectionVars false
namespace Go.Proofs.Ytecdgmdkepiopaa
open Go Go.HW Go.RowKit
attribute [local irreducible] WL WC WG wpList Code.wp


/-! ### the desk -/
def slotK (k : Int × Int) : Value := .agg #[.int .i64 k.1, .int .u32 k.2]
def slotG (k : Int × Int) : Prop := (-9223372036854775808 ≤ k.1 ∧ k.1 ≤ 9223372036854775807) ∧ 0 ≤ k.2 ∧ k.2 ≤ 4294967295
def numV (v : Int) : Value := .int .u32 v
theorem slot_keyed : Go.Maps.Keyed Try.prog 73 := Go.Maps.Keyed.of_law (deep_law_gate (by kernel_rfl) (Nat.le_of_ble_eq_true (by kernel_rfl)) (Nat.lt_of_lt_of_eq (show 73 < 144 by decide) (by kernel_rfl)) (by kernel_rfl) (by kernel_rfl))
theorem slotT : KT slotK slotG Try.prog 73 where
  K := slot_keyed
  ok := fun ⟨p, t⟩ ⟨hp, ht⟩ => by
    have h1 : (Lit.int .i64 p).wf = true := by simp [Lit.wf, IntKind.min, IntKind.max, IntKind.signed, IntKind.bits]; simp only at hp; omega
    have h2 : (Lit.int .u32 t).wf = true := by simp [Lit.wf, IntKind.min, IntKind.max, IntKind.signed, IntKind.bits]; simp only at ht; omega
    have hs : Try.prog.types.size = 144 := by kernel_rfl
    have hc : Try.prog.cellsOf 73 = 2 := by kernel_rfl
    have hkt : Try.prog.keyType 73 = true := by kernel_rfl
    have hf : (Value.agg #[.int .i64 p, .int .u32 t]).formed Try.prog 73 = true := by simp [Value.formed, Try.underlying73, hc]
    have hi : Try.prog.cellsOf 3 = 1 := by kernel_rfl
    have hu : Try.prog.cellsOf 22 = 1 := by kernel_rfl
    refine ⟨.string (keyBytes [.int .i64 p, .int .u32 t]), ?_⟩
    have hk : ∀ d, Try.prog.keyLits (d + 2) 73 [.int .i64 p, .int .u32 t] = some [.int .i64 p, .int .u32 t] := fun d => by
      simp [Program.keyLits, Try.underlying73, Try.underlying3, Try.underlying22, hc, hi, hu, h1, h2]
    have hk2 := hk 143
    unfold keyOf slotK
    simp only [Try.underlying73, hkt, hf, Bool.and_self, if_true, Value.cells]
    rw [show Try.prog.types.size + 1 = 143 + 2 from by rw [hs], hk2]
    rfl
  inj := fun ⟨p, t⟩ ⟨q, u⟩ _ _ h => by
    simp [slotK] at h
    simp [h.1, h.2]


theorem slotG_mk {p t : Int} (h1 : -9223372036854775808 ≤ p) (h2 : p ≤ 9223372036854775807) (h3 : 0 ≤ t) (h4 : t ≤ 4294967295) : slotG (p, t) := ⟨⟨h1, h2⟩, h3, h4⟩
theorem numV_get (o : Option Int) : (o.map numV).getD (.int .u32 0) = .int .u32 (o.getD 0) := by cases o <;> rfl
structure Dk where
  pl : Int
  moves : Int
  usual : Int
  tick : Int
  l : Int × Int → Option Int
structure Dk.ok (D : Dk) : Prop where
  pl0 : -9223372036854775808 ≤ D.pl
  pl1 : D.pl ≤ 9223372036854775807
  moves0 : 0 ≤ D.moves
  moves1 : D.moves ≤ 4294967295
  usual0 : 0 ≤ D.usual
  usual1 : D.usual ≤ 4294967295
  tick0 : 0 ≤ D.tick
  tick1 : D.tick ≤ 4294967295
def Dk.cells (D : Dk) (b : Nat) : List Value := [.int .i64 D.pl, .int .u32 D.moves, .int .u32 D.usual, .int .u32 D.tick, .map (some b)]
def deskc (d b : Nat) (D : Dk) : Ck := both (blk d (D.cells b) 70) (mapc slotK numV slotG b D.l)
def newD (g : Gm) : Dk := ⟨if gameRight g then g.pl else 0, g.moves, g.dflt, 0, fun _ => none⟩
theorem newD_ok (g : Gm) (h : g.ok) : (newD g).ok := ⟨by unfold newD; simp only; split; exact h.pl0; omega, by unfold newD; simp only; split; exact h.pl1; omega, h.moves0, h.moves1, h.dflt0, h.dflt1, by simp [newD], by simp [newD]⟩
def putE (D : Dk) (p t m : Int) : Int :=
  if p < 0 ∨ D.pl ≤ p then 3 else if D.moves ≤ m then 1 else if t ≤ D.tick then 11 else if t - D.tick > 8 then 14 else if (D.l (p, t)).isSome then 12 else 0
def putD (D : Dk) (p t m : Int) : Dk := if putE D p t m = 0 then { D with l := mset D.l (p, t) m } else D
def nextT (D : Dk) : Int := IntKind.u32.wrap (D.tick + 1)
def takeL (D : Dk) : List Int := (List.range D.pl.toNat).map fun p => (D.l ((p : Nat), nextT D)).getD D.usual
def takeM (D : Dk) (n : Nat) : Int × Int → Option Int := fun k => if 0 ≤ k.1 ∧ k.1 < n ∧ k.2 = nextT D then none else D.l k
def takeD (D : Dk) : Dk := { D with tick := nextT D, l := takeM D D.pl.toNat }

theorem new_ok (W : World) (g : Gm) (A B : Option Addr) (ca cb : Nat) (hg : g.ok) (hx : Cells W A (encs Cel.enc g.cells)) (hy : Cells W B (encs Cd.enc g.code)) :
    Calls Try.prog 12 #[.agg (g.val A ca B cb).toArray] W fun e w' => ∃ d b, e = .returned (.pointer (some ⟨d, 0, none⟩)) ∧ Fr [] W w' ∧ (deskc d b (newD g)).ok w' ∧ ∀ x, x ∈ (deskc d b (newD g)).fp → W.heap.size ≤ x := by
  have H : St W [] [] [Go.HW.cells A (encs Cel.enc g.cells), Go.HW.cells B (encs Cd.enc g.code)] W := St.start [] (by simp; exact ⟨cells_ok hx, cells_ok hy⟩)
  refine calls_enter (N := 19) Try.func12 rfl Try.ntmps12 rfl ?_
  refine WC_seq ?_
  refine WC_region ?_
  refine WL_box (v := .agg (List.toArray _)) rfl rfl H ?_
  clear H; intro b1 w H
  refine WL_x (x_assign (v := (.pointer none)) rfl) ?_
  refine WL_nil ?_
  refine thenE_normal ?_
  refine WC_seq ?_
  refine WC_region ?_
  refine WL_x (x_fieldAddr (n := 0) (o' := 2) Try.underlying26 rfl (by kernel_rfl) rfl rfl) ?_
  first | refine WL_x (x_load (v := .int .u32 _) Try.underlying22 rfl rfl (H.cellAt .zero rfl)) ?_ | refine WL_x (x_load (v := .int .u32 _) Try.underlying22 rfl rfl (H.cellAt (.succ .zero) rfl)) ?_ | refine WL_x (x_load (v := .int .u32 _) Try.underlying22 rfl rfl (H.cellAt (.succ (.succ .zero)) rfl)) ?_ | refine WL_x (x_load (v := .int .u32 _) Try.underlying22 rfl rfl (H.cellAt (.succ (.succ (.succ .zero))) rfl)) ?_ | refine WL_x (x_load (v := .int .u32 _) Try.underlying22 rfl rfl (H.cellAt (.succ (.succ (.succ (.succ .zero)))) rfl)) ?_ | refine WL_x (x_load Try.underlying22 rfl rfl (H.rnum .zero (by omega) (by omega))) ?_ | refine WL_x (x_load Try.underlying22 rfl rfl (H.rnum (.succ .zero) (by omega) (by omega))) ?_ | refine WL_x (x_load Try.underlying22 rfl rfl (H.rnum (.succ (.succ .zero)) (by omega) (by omega))) ?_ | refine WL_x (x_load Try.underlying22 rfl rfl (H.onum .zero (by omega) (by omega))) ?_ | refine WL_x (x_load Try.underlying22 rfl rfl (H.onum (.succ .zero) (by omega) (by omega))) ?_ | refine WL_x (x_load Try.underlying22 rfl rfl (H.onum (.succ (.succ .zero)) (by omega) (by omega))) ?_
  refine WL_x (x_fieldAddr (n := 0) (o' := 3) Try.underlying26 rfl (by kernel_rfl) rfl rfl) ?_
  first | refine WL_x (x_load (v := .int .u32 _) Try.underlying22 rfl rfl (H.cellAt .zero rfl)) ?_ | refine WL_x (x_load (v := .int .u32 _) Try.underlying22 rfl rfl (H.cellAt (.succ .zero) rfl)) ?_ | refine WL_x (x_load (v := .int .u32 _) Try.underlying22 rfl rfl (H.cellAt (.succ (.succ .zero)) rfl)) ?_ | refine WL_x (x_load (v := .int .u32 _) Try.underlying22 rfl rfl (H.cellAt (.succ (.succ (.succ .zero))) rfl)) ?_ | refine WL_x (x_load (v := .int .u32 _) Try.underlying22 rfl rfl (H.cellAt (.succ (.succ (.succ (.succ .zero)))) rfl)) ?_ | refine WL_x (x_load Try.underlying22 rfl rfl (H.rnum .zero (by omega) (by omega))) ?_ | refine WL_x (x_load Try.underlying22 rfl rfl (H.rnum (.succ .zero) (by omega) (by omega))) ?_ | refine WL_x (x_load Try.underlying22 rfl rfl (H.rnum (.succ (.succ .zero)) (by omega) (by omega))) ?_ | refine WL_x (x_load Try.underlying22 rfl rfl (H.onum .zero (by omega) (by omega))) ?_ | refine WL_x (x_load Try.underlying22 rfl rfl (H.onum (.succ .zero) (by omega) (by omega))) ?_ | refine WL_x (x_load Try.underlying22 rfl rfl (H.onum (.succ (.succ .zero)) (by omega) (by omega))) ?_
  refine WL_makeMap slotK numV slotG H ?_
  clear H; intro b8 w H
  refine WL_x (x_buildS (pl := [(0, 1), (1, 1), (2, 1), (3, 1), (4, 1)]) (zero := [(.int .i64 0), (.int .u32 0), (.int .u32 0), (.int .u32 0), (.map none)]) (cells := [_, _, _, _, _]) (vs := [(1, .int .u32 _), (2, .int .u32 _), (4, .map _)]) Try.underlying70 (by kernel_rfl) (by kernel_rfl) (by kernel_rfl) rfl rfl) ?_
  refine WL_box (v := .agg (List.toArray _)) rfl rfl H ?_
  clear H; intro b10 w H
  refine WL_x (x_assign (v := .pointer (some _)) rfl) ?_
  refine WL_nil ?_
  refine thenE_normal ?_
  refine WC_seq ?_
  refine WC_seq ?_
  refine WC_region ?_
  refine WL_x (x_loadA (n := 6) (vs := g.val A ca B cb) Try.underlying26 rfl (by kernel_rfl) rfl rfl (H.rangeAll (.succ (.succ .zero)) rfl rfl)) ?_
  refine WL_call (vs := [.agg (List.toArray _)]) Try.func11 rfl rfl rfl (gright_ok _ g _ _ _ _ hg (H.rget (Has.mem .zero)) (H.rget (Has.mem (.succ .zero)))) ?_
  rintro _ w ⟨rfl, hf⟩
  refine ⟨_, rfl, ?_⟩
  replace H := H.quiet hf
  refine WL_nil ?_
  refine thenE_normal ?_
  refine WC_if rfl (fun h12 => ?_) (fun h12 => ?_)
  · refine WC_region ?_
    refine WL_x (x_move (v := .pointer _) rfl) ?_
    refine WL_x (x_fieldAddr (n := 0) (o' := 1) Try.underlying26 rfl (by kernel_rfl) rfl rfl) ?_
    first | refine WL_x (x_load (v := .int .i64 _) Try.underlying3 rfl rfl (H.cellAt .zero rfl)) ?_ | refine WL_x (x_load (v := .int .i64 _) Try.underlying3 rfl rfl (H.cellAt (.succ .zero) rfl)) ?_ | refine WL_x (x_load (v := .int .i64 _) Try.underlying3 rfl rfl (H.cellAt (.succ (.succ .zero)) rfl)) ?_ | refine WL_x (x_load (v := .int .i64 _) Try.underlying3 rfl rfl (H.cellAt (.succ (.succ (.succ .zero))) rfl)) ?_ | refine WL_x (x_load (v := .int .i64 _) Try.underlying3 rfl rfl (H.cellAt (.succ (.succ (.succ (.succ .zero)))) rfl)) ?_ | refine WL_x (x_load Try.underlying3 rfl rfl (H.rnum .zero (by omega) (by omega))) ?_ | refine WL_x (x_load Try.underlying3 rfl rfl (H.rnum (.succ .zero) (by omega) (by omega))) ?_ | refine WL_x (x_load Try.underlying3 rfl rfl (H.rnum (.succ (.succ .zero)) (by omega) (by omega))) ?_ | refine WL_x (x_load Try.underlying3 rfl rfl (H.onum .zero (by omega) (by omega))) ?_ | refine WL_x (x_load Try.underlying3 rfl rfl (H.onum (.succ .zero) (by omega) (by omega))) ?_ | refine WL_x (x_load Try.underlying3 rfl rfl (H.onum (.succ (.succ .zero)) (by omega) (by omega))) ?_
    refine WL_x (x_nilCheck rfl) ?_
    refine WL_x (x_fieldAddr (n := 0) (o' := 0) Try.underlying70 rfl (by kernel_rfl) rfl rfl) ?_
    first | refine WL_store (v := .int .i64 _) Try.underlying3 rfl rfl rfl rfl (by kernel_rfl) H .zero (Nat.le_of_ble_eq_true rfl) rfl ?_ | refine WL_store (v := .int .i64 _) Try.underlying3 rfl rfl rfl rfl (by kernel_rfl) H (.succ .zero) (Nat.le_of_ble_eq_true rfl) rfl ?_ | refine WL_store (v := .int .i64 _) Try.underlying3 rfl rfl rfl rfl (by kernel_rfl) H (.succ (.succ .zero)) (Nat.le_of_ble_eq_true rfl) rfl ?_ | refine WL_store (v := .int .i64 _) Try.underlying3 rfl rfl rfl rfl (by kernel_rfl) H (.succ (.succ (.succ .zero))) (Nat.le_of_ble_eq_true rfl) rfl ?_ | refine WL_store (v := .int .i64 _) Try.underlying3 rfl rfl rfl rfl (by kernel_rfl) H (.succ (.succ (.succ (.succ .zero)))) (Nat.le_of_ble_eq_true rfl) rfl ?_
    clear H; intro w H
    try simp only [List.set_cons_succ, List.set_cons_zero] at H
    refine WL_nil ?_
    refine thenE_normal ?_
    refine WC_seq ?_
    refine WC_region ?_
    refine WL_x (x_move (v := .pointer _) rfl) ?_
    refine WL_x (x_assign (v := .pointer _) rfl) ?_
    refine WL_nil ?_
    refine thenE_normal ?_
    refine WC_ret ?_
    refine ends1 (v := .pointer _) Try.results12 rfl ?_
    refine ⟨b10, b8, rfl, H.fr, ?_, ?_⟩
    · replace H := (H.drop (ro' := []) (.cons_cons _ (.cons_cons _ (List.nil_sublist _))) (by simp)).joinB
      have e := H.ok _ (List.mem_cons_self)
      unfold deskc newD Dk.cells
      rw [h12]
      exact e
    · intro x hx
      simp only [deskc, both, blk, mapc, List.cons_append, List.nil_append, List.mem_cons, List.not_mem_nil, or_false] at hx
      rcases hx with rfl | rfl
      · exact (H.own _ (Has.mem .zero) _ (by simp [blk])).resolve_left (by simp)
      · exact (H.own _ (Has.mem (.succ .zero)) _ (by simp [mapc])).resolve_left (by simp)
  · refine WC_skip ?_
    refine thenE_normal ?_
    refine WC_seq ?_
    refine WC_region ?_
    refine WL_x (x_move (v := .pointer _) rfl) ?_
    refine WL_x (x_assign (v := .pointer _) rfl) ?_
    refine WL_nil ?_
    refine thenE_normal ?_
    refine WC_ret ?_
    refine ends1 (v := .pointer _) Try.results12 rfl ?_
    refine ⟨b10, b8, rfl, H.fr, ?_, ?_⟩
    · replace H := (H.drop (ro' := []) (.cons_cons _ (.cons_cons _ (List.nil_sublist _))) (by simp)).joinB
      have e := H.ok _ (List.mem_cons_self)
      unfold deskc newD Dk.cells
      rw [h12]
      exact e
    · intro x hx
      simp only [deskc, both, blk, mapc, List.cons_append, List.nil_append, List.mem_cons, List.not_mem_nil, or_false] at hx
      rcases hx with rfl | rfl
      · exact (H.own _ (Has.mem .zero) _ (by simp [blk])).resolve_left (by simp)
      · exact (H.own _ (Has.mem (.succ .zero)) _ (by simp [mapc])).resolve_left (by simp)

theorem tick_ok (W : World) (d b : Nat) (D : Dk) (h : (deskc d b D).ok W) (hD : D.ok) :
    Calls Try.prog 16 #[.pointer (some ⟨d, 0, none⟩)] W fun e w' => e = .returned (.int .u32 D.tick) ∧ Fr (deskc d b D).fp W w' ∧ (deskc d b D).ok w' := by
  obtain ⟨pl0, pl1, moves0, moves1, usual0, usual1, tick0, tick1⟩ := hD
  have H : St W (deskc d b D).fp [blk d (D.cells b) 70, mapc slotK numV slotG b D.l] [] W := (St.one h).splitB
  refine calls_enter (N := 9) Try.func16 rfl Try.ntmps16 rfl ?_
  refine WC_seq ?_
  refine WC_region ?_
  refine WL_x (x_assign (v := (.int .u32 0)) rfl) ?_
  refine WL_nil ?_
  refine thenE_normal ?_
  refine WC_seq ?_
  refine WC_seq ?_
  refine WC_region ?_
  refine WL_x (x_move (v := .pointer _) rfl) ?_
  refine WL_x (x_ptr_eql_nil Try.underlying30 rfl rfl) ?_
  refine WL_nil ?_
  refine thenE_normal ?_
  refine WC_no rfl ?_
  refine WC_skip ?_
  refine thenE_normal ?_
  refine WC_seq ?_
  refine WC_region ?_
  refine WL_x (x_move (v := .pointer _) rfl) ?_
  refine WL_x (x_nilCheck rfl) ?_
  refine WL_x (x_fieldAddr (n := 0) (o' := 3) Try.underlying70 rfl (by kernel_rfl) rfl rfl) ?_
  first | refine WL_x (x_load (v := .int .u32 _) Try.underlying22 rfl rfl (H.cellAt .zero rfl)) ?_ | refine WL_x (x_load (v := .int .u32 _) Try.underlying22 rfl rfl (H.cellAt (.succ .zero) rfl)) ?_ | refine WL_x (x_load (v := .int .u32 _) Try.underlying22 rfl rfl (H.cellAt (.succ (.succ .zero)) rfl)) ?_ | refine WL_x (x_load (v := .int .u32 _) Try.underlying22 rfl rfl (H.cellAt (.succ (.succ (.succ .zero))) rfl)) ?_ | refine WL_x (x_load (v := .int .u32 _) Try.underlying22 rfl rfl (H.cellAt (.succ (.succ (.succ (.succ .zero)))) rfl)) ?_ | refine WL_x (x_load Try.underlying22 rfl rfl (H.rnum .zero (by omega) (by omega))) ?_ | refine WL_x (x_load Try.underlying22 rfl rfl (H.rnum (.succ .zero) (by omega) (by omega))) ?_ | refine WL_x (x_load Try.underlying22 rfl rfl (H.rnum (.succ (.succ .zero)) (by omega) (by omega))) ?_ | refine WL_x (x_load Try.underlying22 rfl rfl (H.onum .zero (by omega) (by omega))) ?_ | refine WL_x (x_load Try.underlying22 rfl rfl (H.onum (.succ .zero) (by omega) (by omega))) ?_ | refine WL_x (x_load Try.underlying22 rfl rfl (H.onum (.succ (.succ .zero)) (by omega) (by omega))) ?_
  refine WL_x (x_assign (v := .int .u32 _) rfl) ?_
  refine WL_nil ?_
  refine thenE_normal ?_
  refine WC_ret ?_
  refine ends1 (v := .int .u32 _) Try.results16 rfl ?_
  exact ⟨rfl, H.fr, H.joinB.ok _ List.mem_cons_self⟩

theorem put_ok (W : World) (d b : Nat) (D : Dk) (p t m : Int) (h : (deskc d b D).ok W) (hD : D.ok) (hp : -9223372036854775808 ≤ p ∧ p ≤ 9223372036854775807) (ht : 0 ≤ t ∧ t ≤ 4294967295) :
    Calls Try.prog 13 #[.pointer (some ⟨d, 0, none⟩), .int .i64 p, .int .u32 t, .int .u32 m] W fun e w' => e = .returned (.int .i64 (putE D p t m)) ∧ Fr (deskc d b D).fp W w' ∧ (deskc d b (putD D p t m)).ok w' := by
  obtain ⟨pl0, pl1, moves0, moves1, usual0, usual1, tick0, tick1⟩ := hD
  have H : St W (deskc d b D).fp [blk d (D.cells b) 70, mapc slotK numV slotG b D.l] [] W := (St.one h).splitB
  refine calls_enter (N := 68) Try.func13 rfl Try.ntmps13 rfl ?_
  refine WC_seq ?_
  refine WC_region ?_
  refine WL_x (x_assign (v := (.int .i64 0)) rfl) ?_
  refine WL_nil ?_
  refine thenE_normal ?_
  refine WC_seq ?_
  refine WC_block ?_
  refine WC_seq ?_
  refine WC_region ?_
  refine WL_x (x_move (v := .pointer _) rfl) ?_
  refine WL_x (x_ptr_eql_nil Try.underlying30 rfl rfl) ?_
  refine WL_x (x_move (v := .bool _) rfl) ?_
  refine WL_guard_yes rfl rfl rfl ?_
  refine WL_x (x_move (v := .int .i64 _) rfl) ?_
  refine WL_guard_yes rfl rfl rfl ?_
  refine WL_x (x_binop rfl rfl (r_lss _ _ _ _)) ?_
  refine WL_x (x_pick (v := .bool _) rfl rfl) ?_
  refine WL_x (x_move (v := .bool _) rfl) ?_
  first | refine WL_cased (t := 18) rfl (fun h18 => ?_) (fun h18 => ?_) | refine WL_casen (t := 18) rfl (fun h18 => ?_) (fun h18 => ?_) | refine WL_case (t := 18) rfl (fun h18 => ?_) (fun h18 => ?_)
  · refine WL_guard_no rfl rfl rfl ?_
    refine WL_guard_no rfl rfl rfl ?_
    refine WL_guard_no rfl rfl rfl ?_
    refine WL_guard_no rfl rfl rfl ?_
    refine WL_guard_no rfl rfl rfl ?_
    refine WL_guard_no rfl rfl rfl ?_
    refine WL_x (x_pick (v := .bool _) rfl rfl) ?_
    refine WL_x (x_assign (v := .bool _) rfl) ?_
    refine WL_nil ?_
    refine thenE_normal ?_
    refine WC_yes rfl ?_
    refine WC_seq ?_
    refine WC_region ?_
    refine WL_x (x_assign (v := (.int .i64 3)) rfl) ?_
    refine WL_nil ?_
    refine thenE_normal ?_
    refine WC_ret ?_
    refine inBlockE_ret ?_
    refine thenE_ret ?_
    refine ends1 (v := .int .i64 _) Try.results13 rfl ?_
    clear hp ht pl0 pl1 moves0 moves1 usual0 usual1 tick0 tick1
    first
      | (have e : putE D p t m = 0 := by unfold putE; rw [if_neg (by omega), if_neg (by omega), if_neg (by omega), if_neg (by omega), if_neg (by rw [h59]; decide)]
         refine ⟨by rw [e], H.fr, ?_⟩
         unfold putD; rw [if_pos e]
         exact (H.drop (ro' := []) (.cons_cons _ (.cons_cons _ (List.nil_sublist _))) (by simp)).joinB.ok _ List.mem_cons_self)
      | (have e : putE D p t m = 12 := by unfold putE; rw [if_neg (by omega), if_neg (by omega), if_neg (by omega), if_neg (by omega), if_pos h59]
         refine ⟨by rw [e], H.fr, ?_⟩
         unfold putD; rw [if_neg (by rw [e]; decide)]
         exact H.joinB.ok _ List.mem_cons_self)
      | (have e : putE D p t m = 14 := by unfold putE; rw [if_neg (by omega), if_neg (by omega), if_neg (by omega), if_pos (by omega)]
         refine ⟨by rw [e], H.fr, ?_⟩
         unfold putD; rw [if_neg (by rw [e]; decide)]
         exact H.joinB.ok _ List.mem_cons_self)
      | (have e : putE D p t m = 11 := by unfold putE; rw [if_neg (by omega), if_neg (by omega), if_pos (by omega)]
         refine ⟨by rw [e], H.fr, ?_⟩
         unfold putD; rw [if_neg (by rw [e]; decide)]
         exact H.joinB.ok _ List.mem_cons_self)
      | (have e : putE D p t m = 1 := by unfold putE; rw [if_neg (by omega), if_pos (by omega)]
         refine ⟨by rw [e], H.fr, ?_⟩
         unfold putD; rw [if_neg (by rw [e]; decide)]
         exact H.joinB.ok _ List.mem_cons_self)
      | (have e : putE D p t m = 3 := by unfold putE; rw [if_pos (by omega)]
         refine ⟨by rw [e], H.fr, ?_⟩
         unfold putD; rw [if_neg (by rw [e]; decide)]
         exact H.joinB.ok _ List.mem_cons_self)
  · refine WL_guard_yes rfl rfl rfl ?_
    refine WL_x (x_move (v := .int .i64 _) rfl) ?_
    refine WL_guard_yes rfl rfl rfl ?_
    refine WL_x (x_move (v := .pointer _) rfl) ?_
    refine WL_guard_yes rfl rfl rfl ?_
    refine WL_x (x_nilCheck rfl) ?_
    refine WL_guard_yes rfl rfl rfl ?_
    refine WL_x (x_fieldAddr (n := 0) (o' := 0) Try.underlying70 rfl (by kernel_rfl) rfl rfl) ?_
    refine WL_guard_yes rfl rfl rfl ?_
    first | refine WL_x (x_load (v := .int .i64 _) Try.underlying3 rfl rfl (H.cellAt .zero rfl)) ?_ | refine WL_x (x_load (v := .int .i64 _) Try.underlying3 rfl rfl (H.cellAt (.succ .zero) rfl)) ?_ | refine WL_x (x_load (v := .int .i64 _) Try.underlying3 rfl rfl (H.cellAt (.succ (.succ .zero)) rfl)) ?_ | refine WL_x (x_load (v := .int .i64 _) Try.underlying3 rfl rfl (H.cellAt (.succ (.succ (.succ .zero))) rfl)) ?_ | refine WL_x (x_load (v := .int .i64 _) Try.underlying3 rfl rfl (H.cellAt (.succ (.succ (.succ (.succ .zero)))) rfl)) ?_ | refine WL_x (x_load Try.underlying3 rfl rfl (H.rnum .zero (by omega) (by omega))) ?_ | refine WL_x (x_load Try.underlying3 rfl rfl (H.rnum (.succ .zero) (by omega) (by omega))) ?_ | refine WL_x (x_load Try.underlying3 rfl rfl (H.rnum (.succ (.succ .zero)) (by omega) (by omega))) ?_ | refine WL_x (x_load Try.underlying3 rfl rfl (H.onum .zero (by omega) (by omega))) ?_ | refine WL_x (x_load Try.underlying3 rfl rfl (H.onum (.succ .zero) (by omega) (by omega))) ?_ | refine WL_x (x_load Try.underlying3 rfl rfl (H.onum (.succ (.succ .zero)) (by omega) (by omega))) ?_
    refine WL_guard_yes rfl rfl rfl ?_
    refine WL_x (x_binop rfl rfl (r_geq _ _ _ _)) ?_
    refine WL_x (x_pick (v := .bool _) rfl rfl) ?_
    refine WL_x (x_assign (v := .bool _) rfl) ?_
    refine WL_nil ?_
    refine thenE_normal ?_
    first | refine WC_ifd rfl (fun h11 => ?_) (fun h11 => ?_) | refine WC_ifn rfl (fun h11 => ?_) (fun h11 => ?_) | refine WC_if rfl (fun h11 => ?_) (fun h11 => ?_)
    · refine WC_seq ?_
      refine WC_region ?_
      refine WL_x (x_assign (v := (.int .i64 3)) rfl) ?_
      refine WL_nil ?_
      refine thenE_normal ?_
      refine WC_ret ?_
      refine inBlockE_ret ?_
      refine thenE_ret ?_
      refine ends1 (v := .int .i64 _) Try.results13 rfl ?_
      clear hp ht pl0 pl1 moves0 moves1 usual0 usual1 tick0 tick1
      first
        | (have e : putE D p t m = 0 := by unfold putE; rw [if_neg (by omega), if_neg (by omega), if_neg (by omega), if_neg (by omega), if_neg (by rw [h59]; decide)]
           refine ⟨by rw [e], H.fr, ?_⟩
           unfold putD; rw [if_pos e]
           exact (H.drop (ro' := []) (.cons_cons _ (.cons_cons _ (List.nil_sublist _))) (by simp)).joinB.ok _ List.mem_cons_self)
        | (have e : putE D p t m = 12 := by unfold putE; rw [if_neg (by omega), if_neg (by omega), if_neg (by omega), if_neg (by omega), if_pos h59]
           refine ⟨by rw [e], H.fr, ?_⟩
           unfold putD; rw [if_neg (by rw [e]; decide)]
           exact H.joinB.ok _ List.mem_cons_self)
        | (have e : putE D p t m = 14 := by unfold putE; rw [if_neg (by omega), if_neg (by omega), if_neg (by omega), if_pos (by omega)]
           refine ⟨by rw [e], H.fr, ?_⟩
           unfold putD; rw [if_neg (by rw [e]; decide)]
           exact H.joinB.ok _ List.mem_cons_self)
        | (have e : putE D p t m = 11 := by unfold putE; rw [if_neg (by omega), if_neg (by omega), if_pos (by omega)]
           refine ⟨by rw [e], H.fr, ?_⟩
           unfold putD; rw [if_neg (by rw [e]; decide)]
           exact H.joinB.ok _ List.mem_cons_self)
        | (have e : putE D p t m = 1 := by unfold putE; rw [if_neg (by omega), if_pos (by omega)]
           refine ⟨by rw [e], H.fr, ?_⟩
           unfold putD; rw [if_neg (by rw [e]; decide)]
           exact H.joinB.ok _ List.mem_cons_self)
        | (have e : putE D p t m = 3 := by unfold putE; rw [if_pos (by omega)]
           refine ⟨by rw [e], H.fr, ?_⟩
           unfold putD; rw [if_neg (by rw [e]; decide)]
           exact H.joinB.ok _ List.mem_cons_self)
    · refine WC_seq ?_
      refine WC_region ?_
      refine WL_x (x_move (v := .int .u32 _) rfl) ?_
      refine WL_x (x_move (v := .pointer _) rfl) ?_
      refine WL_x (x_nilCheck rfl) ?_
      refine WL_x (x_fieldAddr (n := 0) (o' := 1) Try.underlying70 rfl (by kernel_rfl) rfl rfl) ?_
      first | refine WL_x (x_load (v := .int .u32 _) Try.underlying22 rfl rfl (H.cellAt .zero rfl)) ?_ | refine WL_x (x_load (v := .int .u32 _) Try.underlying22 rfl rfl (H.cellAt (.succ .zero) rfl)) ?_ | refine WL_x (x_load (v := .int .u32 _) Try.underlying22 rfl rfl (H.cellAt (.succ (.succ .zero)) rfl)) ?_ | refine WL_x (x_load (v := .int .u32 _) Try.underlying22 rfl rfl (H.cellAt (.succ (.succ (.succ .zero))) rfl)) ?_ | refine WL_x (x_load (v := .int .u32 _) Try.underlying22 rfl rfl (H.cellAt (.succ (.succ (.succ (.succ .zero)))) rfl)) ?_ | refine WL_x (x_load Try.underlying22 rfl rfl (H.rnum .zero (by omega) (by omega))) ?_ | refine WL_x (x_load Try.underlying22 rfl rfl (H.rnum (.succ .zero) (by omega) (by omega))) ?_ | refine WL_x (x_load Try.underlying22 rfl rfl (H.rnum (.succ (.succ .zero)) (by omega) (by omega))) ?_ | refine WL_x (x_load Try.underlying22 rfl rfl (H.onum .zero (by omega) (by omega))) ?_ | refine WL_x (x_load Try.underlying22 rfl rfl (H.onum (.succ .zero) (by omega) (by omega))) ?_ | refine WL_x (x_load Try.underlying22 rfl rfl (H.onum (.succ (.succ .zero)) (by omega) (by omega))) ?_
      refine WL_x (x_binop rfl rfl (r_geq _ _ _ _)) ?_
      refine WL_x (x_assign (v := .bool _) rfl) ?_
      refine WL_nil ?_
      refine thenE_normal ?_
      first | refine WC_ifd rfl (fun h26 => ?_) (fun h26 => ?_) | refine WC_ifn rfl (fun h26 => ?_) (fun h26 => ?_) | refine WC_if rfl (fun h26 => ?_) (fun h26 => ?_)
      · refine WC_seq ?_
        refine WC_region ?_
        refine WL_x (x_assign (v := (.int .i64 1)) rfl) ?_
        refine WL_nil ?_
        refine thenE_normal ?_
        refine WC_ret ?_
        refine inBlockE_ret ?_
        refine thenE_ret ?_
        refine ends1 (v := .int .i64 _) Try.results13 rfl ?_
        clear hp ht pl0 pl1 moves0 moves1 usual0 usual1 tick0 tick1
        first
          | (have e : putE D p t m = 0 := by unfold putE; rw [if_neg (by omega), if_neg (by omega), if_neg (by omega), if_neg (by omega), if_neg (by rw [h59]; decide)]
             refine ⟨by rw [e], H.fr, ?_⟩
             unfold putD; rw [if_pos e]
             exact (H.drop (ro' := []) (.cons_cons _ (.cons_cons _ (List.nil_sublist _))) (by simp)).joinB.ok _ List.mem_cons_self)
          | (have e : putE D p t m = 12 := by unfold putE; rw [if_neg (by omega), if_neg (by omega), if_neg (by omega), if_neg (by omega), if_pos h59]
             refine ⟨by rw [e], H.fr, ?_⟩
             unfold putD; rw [if_neg (by rw [e]; decide)]
             exact H.joinB.ok _ List.mem_cons_self)
          | (have e : putE D p t m = 14 := by unfold putE; rw [if_neg (by omega), if_neg (by omega), if_neg (by omega), if_pos (by omega)]
             refine ⟨by rw [e], H.fr, ?_⟩
             unfold putD; rw [if_neg (by rw [e]; decide)]
             exact H.joinB.ok _ List.mem_cons_self)
          | (have e : putE D p t m = 11 := by unfold putE; rw [if_neg (by omega), if_neg (by omega), if_pos (by omega)]
             refine ⟨by rw [e], H.fr, ?_⟩
             unfold putD; rw [if_neg (by rw [e]; decide)]
             exact H.joinB.ok _ List.mem_cons_self)
          | (have e : putE D p t m = 1 := by unfold putE; rw [if_neg (by omega), if_pos (by omega)]
             refine ⟨by rw [e], H.fr, ?_⟩
             unfold putD; rw [if_neg (by rw [e]; decide)]
             exact H.joinB.ok _ List.mem_cons_self)
          | (have e : putE D p t m = 3 := by unfold putE; rw [if_pos (by omega)]
             refine ⟨by rw [e], H.fr, ?_⟩
             unfold putD; rw [if_neg (by rw [e]; decide)]
             exact H.joinB.ok _ List.mem_cons_self)
      · refine WC_seq ?_
        refine WC_region ?_
        refine WL_x (x_move (v := .int .u32 _) rfl) ?_
        refine WL_x (x_move (v := .pointer _) rfl) ?_
        refine WL_x (x_nilCheck rfl) ?_
        refine WL_x (x_fieldAddr (n := 0) (o' := 3) Try.underlying70 rfl (by kernel_rfl) rfl rfl) ?_
        first | refine WL_x (x_load (v := .int .u32 _) Try.underlying22 rfl rfl (H.cellAt .zero rfl)) ?_ | refine WL_x (x_load (v := .int .u32 _) Try.underlying22 rfl rfl (H.cellAt (.succ .zero) rfl)) ?_ | refine WL_x (x_load (v := .int .u32 _) Try.underlying22 rfl rfl (H.cellAt (.succ (.succ .zero)) rfl)) ?_ | refine WL_x (x_load (v := .int .u32 _) Try.underlying22 rfl rfl (H.cellAt (.succ (.succ (.succ .zero))) rfl)) ?_ | refine WL_x (x_load (v := .int .u32 _) Try.underlying22 rfl rfl (H.cellAt (.succ (.succ (.succ (.succ .zero)))) rfl)) ?_ | refine WL_x (x_load Try.underlying22 rfl rfl (H.rnum .zero (by omega) (by omega))) ?_ | refine WL_x (x_load Try.underlying22 rfl rfl (H.rnum (.succ .zero) (by omega) (by omega))) ?_ | refine WL_x (x_load Try.underlying22 rfl rfl (H.rnum (.succ (.succ .zero)) (by omega) (by omega))) ?_ | refine WL_x (x_load Try.underlying22 rfl rfl (H.onum .zero (by omega) (by omega))) ?_ | refine WL_x (x_load Try.underlying22 rfl rfl (H.onum (.succ .zero) (by omega) (by omega))) ?_ | refine WL_x (x_load Try.underlying22 rfl rfl (H.onum (.succ (.succ .zero)) (by omega) (by omega))) ?_
        refine WL_x (x_binop rfl rfl (r_leq _ _ _ _)) ?_
        refine WL_x (x_assign (v := .bool _) rfl) ?_
        refine WL_nil ?_
        refine thenE_normal ?_
        first | refine WC_ifd rfl (fun h33 => ?_) (fun h33 => ?_) | refine WC_ifn rfl (fun h33 => ?_) (fun h33 => ?_) | refine WC_if rfl (fun h33 => ?_) (fun h33 => ?_)
        · refine WC_seq ?_
          refine WC_region ?_
          refine WL_x (x_assign (v := (.int .i64 11)) rfl) ?_
          refine WL_nil ?_
          refine thenE_normal ?_
          refine WC_ret ?_
          refine inBlockE_ret ?_
          refine thenE_ret ?_
          refine ends1 (v := .int .i64 _) Try.results13 rfl ?_
          clear hp ht pl0 pl1 moves0 moves1 usual0 usual1 tick0 tick1
          first
            | (have e : putE D p t m = 0 := by unfold putE; rw [if_neg (by omega), if_neg (by omega), if_neg (by omega), if_neg (by omega), if_neg (by rw [h59]; decide)]
               refine ⟨by rw [e], H.fr, ?_⟩
               unfold putD; rw [if_pos e]
               exact (H.drop (ro' := []) (.cons_cons _ (.cons_cons _ (List.nil_sublist _))) (by simp)).joinB.ok _ List.mem_cons_self)
            | (have e : putE D p t m = 12 := by unfold putE; rw [if_neg (by omega), if_neg (by omega), if_neg (by omega), if_neg (by omega), if_pos h59]
               refine ⟨by rw [e], H.fr, ?_⟩
               unfold putD; rw [if_neg (by rw [e]; decide)]
               exact H.joinB.ok _ List.mem_cons_self)
            | (have e : putE D p t m = 14 := by unfold putE; rw [if_neg (by omega), if_neg (by omega), if_neg (by omega), if_pos (by omega)]
               refine ⟨by rw [e], H.fr, ?_⟩
               unfold putD; rw [if_neg (by rw [e]; decide)]
               exact H.joinB.ok _ List.mem_cons_self)
            | (have e : putE D p t m = 11 := by unfold putE; rw [if_neg (by omega), if_neg (by omega), if_pos (by omega)]
               refine ⟨by rw [e], H.fr, ?_⟩
               unfold putD; rw [if_neg (by rw [e]; decide)]
               exact H.joinB.ok _ List.mem_cons_self)
            | (have e : putE D p t m = 1 := by unfold putE; rw [if_neg (by omega), if_pos (by omega)]
               refine ⟨by rw [e], H.fr, ?_⟩
               unfold putD; rw [if_neg (by rw [e]; decide)]
               exact H.joinB.ok _ List.mem_cons_self)
            | (have e : putE D p t m = 3 := by unfold putE; rw [if_pos (by omega)]
               refine ⟨by rw [e], H.fr, ?_⟩
               unfold putD; rw [if_neg (by rw [e]; decide)]
               exact H.joinB.ok _ List.mem_cons_self)
        · refine WC_seq ?_
          refine WC_region ?_
          refine WL_x (x_move (v := .int .u32 _) rfl) ?_
          refine WL_x (x_move (v := .pointer _) rfl) ?_
          refine WL_x (x_nilCheck rfl) ?_
          refine WL_x (x_fieldAddr (n := 0) (o' := 3) Try.underlying70 rfl (by kernel_rfl) rfl rfl) ?_
          first | refine WL_x (x_load (v := .int .u32 _) Try.underlying22 rfl rfl (H.cellAt .zero rfl)) ?_ | refine WL_x (x_load (v := .int .u32 _) Try.underlying22 rfl rfl (H.cellAt (.succ .zero) rfl)) ?_ | refine WL_x (x_load (v := .int .u32 _) Try.underlying22 rfl rfl (H.cellAt (.succ (.succ .zero)) rfl)) ?_ | refine WL_x (x_load (v := .int .u32 _) Try.underlying22 rfl rfl (H.cellAt (.succ (.succ (.succ .zero))) rfl)) ?_ | refine WL_x (x_load (v := .int .u32 _) Try.underlying22 rfl rfl (H.cellAt (.succ (.succ (.succ (.succ .zero)))) rfl)) ?_ | refine WL_x (x_load Try.underlying22 rfl rfl (H.rnum .zero (by omega) (by omega))) ?_ | refine WL_x (x_load Try.underlying22 rfl rfl (H.rnum (.succ .zero) (by omega) (by omega))) ?_ | refine WL_x (x_load Try.underlying22 rfl rfl (H.rnum (.succ (.succ .zero)) (by omega) (by omega))) ?_ | refine WL_x (x_load Try.underlying22 rfl rfl (H.onum .zero (by omega) (by omega))) ?_ | refine WL_x (x_load Try.underlying22 rfl rfl (H.onum (.succ .zero) (by omega) (by omega))) ?_ | refine WL_x (x_load Try.underlying22 rfl rfl (H.onum (.succ (.succ .zero)) (by omega) (by omega))) ?_
          refine WL_x (x_binop rfl rfl (r_sub_in (u32_in (by omega) (by omega)))) ?_
          refine WL_x (x_binop rfl rfl (r_gtr _ _ _ _)) ?_
          refine WL_x (x_assign (v := .bool _) rfl) ?_
          refine WL_nil ?_
          refine thenE_normal ?_
          first | refine WC_ifd rfl (fun h40 => ?_) (fun h40 => ?_) | refine WC_ifn rfl (fun h40 => ?_) (fun h40 => ?_) | refine WC_if rfl (fun h40 => ?_) (fun h40 => ?_)
          · refine WC_seq ?_
            refine WC_region ?_
            refine WL_x (x_assign (v := (.int .i64 14)) rfl) ?_
            refine WL_nil ?_
            refine thenE_normal ?_
            refine WC_ret ?_
            refine inBlockE_ret ?_
            refine thenE_ret ?_
            refine ends1 (v := .int .i64 _) Try.results13 rfl ?_
            clear hp ht pl0 pl1 moves0 moves1 usual0 usual1 tick0 tick1
            first
              | (have e : putE D p t m = 0 := by unfold putE; rw [if_neg (by omega), if_neg (by omega), if_neg (by omega), if_neg (by omega), if_neg (by rw [h59]; decide)]
                 refine ⟨by rw [e], H.fr, ?_⟩
                 unfold putD; rw [if_pos e]
                 exact (H.drop (ro' := []) (.cons_cons _ (.cons_cons _ (List.nil_sublist _))) (by simp)).joinB.ok _ List.mem_cons_self)
              | (have e : putE D p t m = 12 := by unfold putE; rw [if_neg (by omega), if_neg (by omega), if_neg (by omega), if_neg (by omega), if_pos h59]
                 refine ⟨by rw [e], H.fr, ?_⟩
                 unfold putD; rw [if_neg (by rw [e]; decide)]
                 exact H.joinB.ok _ List.mem_cons_self)
              | (have e : putE D p t m = 14 := by unfold putE; rw [if_neg (by omega), if_neg (by omega), if_neg (by omega), if_pos (by omega)]
                 refine ⟨by rw [e], H.fr, ?_⟩
                 unfold putD; rw [if_neg (by rw [e]; decide)]
                 exact H.joinB.ok _ List.mem_cons_self)
              | (have e : putE D p t m = 11 := by unfold putE; rw [if_neg (by omega), if_neg (by omega), if_pos (by omega)]
                 refine ⟨by rw [e], H.fr, ?_⟩
                 unfold putD; rw [if_neg (by rw [e]; decide)]
                 exact H.joinB.ok _ List.mem_cons_self)
              | (have e : putE D p t m = 1 := by unfold putE; rw [if_neg (by omega), if_pos (by omega)]
                 refine ⟨by rw [e], H.fr, ?_⟩
                 unfold putD; rw [if_neg (by rw [e]; decide)]
                 exact H.joinB.ok _ List.mem_cons_self)
              | (have e : putE D p t m = 3 := by unfold putE; rw [if_pos (by omega)]
                 refine ⟨by rw [e], H.fr, ?_⟩
                 unfold putD; rw [if_neg (by rw [e]; decide)]
                 exact H.joinB.ok _ List.mem_cons_self)
          · refine WC_skip ?_
            refine inBlockE_normal ?_
            refine thenE_normal ?_
            refine WC_seq ?_
            refine WC_seq ?_
            refine WC_region ?_
            refine WL_x (x_move (v := .pointer _) rfl) ?_
            refine WL_x (x_nilCheck rfl) ?_
            refine WL_x (x_fieldAddr (n := 0) (o' := 4) Try.underlying70 rfl (by kernel_rfl) rfl rfl) ?_
            first | refine WL_x (x_load (v := .map _) Try.underlying68 rfl rfl (H.cellAt .zero rfl)) ?_ | refine WL_x (x_load (v := .map _) Try.underlying68 rfl rfl (H.cellAt (.succ .zero) rfl)) ?_ | refine WL_x (x_load (v := .map _) Try.underlying68 rfl rfl (H.cellAt (.succ (.succ .zero)) rfl)) ?_ | refine WL_x (x_load (v := .map _) Try.underlying68 rfl rfl (H.cellAt (.succ (.succ (.succ .zero))) rfl)) ?_ | refine WL_x (x_load (v := .map _) Try.underlying68 rfl rfl (H.cellAt (.succ (.succ (.succ (.succ .zero)))) rfl)) ?_
            refine WL_x (x_move (v := .int .i64 _) rfl) ?_
            refine WL_x (x_move (v := .int .u32 _) rfl) ?_
            refine WL_x (x_buildS (pl := [(0, 1), (1, 1)]) (zero := [(.int .i64 0), (.int .u32 0)]) (cells := [_, _]) (vs := [(0, .int .i64 _), (1, .int .u32 _)]) Try.underlying73 (by kernel_rfl) (by kernel_rfl) (by kernel_rfl) rfl rfl) ?_
            first | refine WL_x (x_lookup2 (eK := slotK) (eV := numV) (g := slotG) (a := (p, t)) slotT Try.underlying68 (by kernel_rfl) rfl rfl (slotG_mk hp.1 hp.2 ht.1 ht.2) (H.get (Has.mem .zero)) (numV_get _) rfl) ?_ | refine WL_x (x_lookup2 (eK := slotK) (eV := numV) (g := slotG) (a := (p, t)) slotT Try.underlying68 (by kernel_rfl) rfl rfl (slotG_mk hp.1 hp.2 ht.1 ht.2) (H.get (Has.mem (.succ .zero))) (numV_get _) rfl) ?_ | refine WL_x (x_lookup2 (eK := slotK) (eV := numV) (g := slotG) (a := (p, t)) slotT Try.underlying68 (by kernel_rfl) rfl rfl (slotG_mk hp.1 hp.2 ht.1 ht.2) (H.get (Has.mem (.succ (.succ .zero)))) (numV_get _) rfl) ?_ | refine WL_x (x_lookup2 (eK := slotK) (eV := numV) (g := slotG) (a := (p, t)) slotT Try.underlying68 (by kernel_rfl) rfl rfl (slotG_mk hp.1 hp.2 ht.1 ht.2) (H.get (Has.mem (.succ (.succ (.succ .zero))))) (numV_get _) rfl) ?_ | refine WL_x (x_lookup2 (eK := slotK) (eV := numV) (g := slotG) (a := (p, t)) slotT Try.underlying68 (by kernel_rfl) rfl rfl (slotG_mk hp.1 hp.2 ht.1 ht.2) (H.get (Has.mem (.succ (.succ (.succ (.succ .zero)))))) (numV_get _) rfl) ?_
            refine WL_x (x_move (v := .tuple _) rfl) ?_
            refine WL_x (x_extract (v := .int .u32 _) rfl rfl) ?_
            refine WL_x (x_extract (v := .bool _) rfl rfl) ?_
            refine WL_x (x_assign (v := .int .u32 _) rfl) ?_
            refine WL_x (x_assign (v := .bool _) rfl) ?_
            refine WL_nil ?_
            refine thenE_normal ?_
            refine WC_seq ?_
            refine WC_region ?_
            refine WL_x (x_move (v := .bool _) rfl) ?_
            refine WL_nil ?_
            refine thenE_normal ?_
            refine WC_if rfl (fun h59 => ?_) (fun h59 => ?_)
            · refine WC_seq ?_
              refine WC_region ?_
              refine WL_x (x_assign (v := (.int .i64 12)) rfl) ?_
              refine WL_nil ?_
              refine thenE_normal ?_
              refine WC_ret ?_
              refine thenE_ret ?_
              refine ends1 (v := .int .i64 _) Try.results13 rfl ?_
              clear hp ht pl0 pl1 moves0 moves1 usual0 usual1 tick0 tick1
              first
                | (have e : putE D p t m = 0 := by unfold putE; rw [if_neg (by omega), if_neg (by omega), if_neg (by omega), if_neg (by omega), if_neg (by rw [h59]; decide)]
                   refine ⟨by rw [e], H.fr, ?_⟩
                   unfold putD; rw [if_pos e]
                   exact (H.drop (ro' := []) (.cons_cons _ (.cons_cons _ (List.nil_sublist _))) (by simp)).joinB.ok _ List.mem_cons_self)
                | (have e : putE D p t m = 12 := by unfold putE; rw [if_neg (by omega), if_neg (by omega), if_neg (by omega), if_neg (by omega), if_pos h59]
                   refine ⟨by rw [e], H.fr, ?_⟩
                   unfold putD; rw [if_neg (by rw [e]; decide)]
                   exact H.joinB.ok _ List.mem_cons_self)
                | (have e : putE D p t m = 14 := by unfold putE; rw [if_neg (by omega), if_neg (by omega), if_neg (by omega), if_pos (by omega)]
                   refine ⟨by rw [e], H.fr, ?_⟩
                   unfold putD; rw [if_neg (by rw [e]; decide)]
                   exact H.joinB.ok _ List.mem_cons_self)
                | (have e : putE D p t m = 11 := by unfold putE; rw [if_neg (by omega), if_neg (by omega), if_pos (by omega)]
                   refine ⟨by rw [e], H.fr, ?_⟩
                   unfold putD; rw [if_neg (by rw [e]; decide)]
                   exact H.joinB.ok _ List.mem_cons_self)
                | (have e : putE D p t m = 1 := by unfold putE; rw [if_neg (by omega), if_pos (by omega)]
                   refine ⟨by rw [e], H.fr, ?_⟩
                   unfold putD; rw [if_neg (by rw [e]; decide)]
                   exact H.joinB.ok _ List.mem_cons_self)
                | (have e : putE D p t m = 3 := by unfold putE; rw [if_pos (by omega)]
                   refine ⟨by rw [e], H.fr, ?_⟩
                   unfold putD; rw [if_neg (by rw [e]; decide)]
                   exact H.joinB.ok _ List.mem_cons_self)
            · refine WC_skip ?_
              refine thenE_normal ?_
              refine WC_seq ?_
              refine WC_region ?_
              refine WL_x (x_move (v := .pointer _) rfl) ?_
              refine WL_x (x_nilCheck rfl) ?_
              refine WL_x (x_fieldAddr (n := 0) (o' := 4) Try.underlying70 rfl (by kernel_rfl) rfl rfl) ?_
              first | refine WL_x (x_load (v := .map _) Try.underlying68 rfl rfl (H.cellAt .zero rfl)) ?_ | refine WL_x (x_load (v := .map _) Try.underlying68 rfl rfl (H.cellAt (.succ .zero) rfl)) ?_ | refine WL_x (x_load (v := .map _) Try.underlying68 rfl rfl (H.cellAt (.succ (.succ .zero)) rfl)) ?_ | refine WL_x (x_load (v := .map _) Try.underlying68 rfl rfl (H.cellAt (.succ (.succ (.succ .zero))) rfl)) ?_ | refine WL_x (x_load (v := .map _) Try.underlying68 rfl rfl (H.cellAt (.succ (.succ (.succ (.succ .zero)))) rfl)) ?_
              refine WL_x (x_move (v := .int .i64 _) rfl) ?_
              refine WL_x (x_move (v := .int .u32 _) rfl) ?_
              refine WL_x (x_buildS (pl := [(0, 1), (1, 1)]) (zero := [(.int .i64 0), (.int .u32 0)]) (cells := [_, _]) (vs := [(0, .int .i64 _), (1, .int .u32 _)]) Try.underlying73 (by kernel_rfl) (by kernel_rfl) (by kernel_rfl) rfl rfl) ?_
              refine WL_x (x_move (v := .int .u32 _) rfl) ?_
              first | refine WL_mapUpdate (eK := slotK) (eV := numV) (g := slotG) (a := (p, t)) slotT Try.underlying68 rfl rfl rfl (slotG_mk hp.1 hp.2 ht.1 ht.2) H .zero ?_ | refine WL_mapUpdate (eK := slotK) (eV := numV) (g := slotG) (a := (p, t)) slotT Try.underlying68 rfl rfl rfl (slotG_mk hp.1 hp.2 ht.1 ht.2) H (.succ .zero) ?_ | refine WL_mapUpdate (eK := slotK) (eV := numV) (g := slotG) (a := (p, t)) slotT Try.underlying68 rfl rfl rfl (slotG_mk hp.1 hp.2 ht.1 ht.2) H (.succ (.succ .zero)) ?_ | refine WL_mapUpdate (eK := slotK) (eV := numV) (g := slotG) (a := (p, t)) slotT Try.underlying68 rfl rfl rfl (slotG_mk hp.1 hp.2 ht.1 ht.2) H (.succ (.succ (.succ .zero))) ?_ | refine WL_mapUpdate (eK := slotK) (eV := numV) (g := slotG) (a := (p, t)) slotT Try.underlying68 rfl rfl rfl (slotG_mk hp.1 hp.2 ht.1 ht.2) H (.succ (.succ (.succ (.succ .zero)))) ?_
              clear H; intro w H
              refine WL_nil ?_
              refine thenE_normal ?_
              refine WC_seq ?_
              refine WC_region ?_
              refine WL_x (x_assign (v := (.int .i64 0)) rfl) ?_
              refine WL_nil ?_
              refine thenE_normal ?_
              refine WC_ret ?_
              refine ends1 (v := .int .i64 _) Try.results13 rfl ?_
              clear hp ht pl0 pl1 moves0 moves1 usual0 usual1 tick0 tick1
              first
                | (have e : putE D p t m = 0 := by unfold putE; rw [if_neg (by omega), if_neg (by omega), if_neg (by omega), if_neg (by omega), if_neg (by rw [h59]; decide)]
                   refine ⟨by rw [e], H.fr, ?_⟩
                   unfold putD; rw [if_pos e]
                   exact (H.drop (ro' := []) (.cons_cons _ (.cons_cons _ (List.nil_sublist _))) (by simp)).joinB.ok _ List.mem_cons_self)
                | (have e : putE D p t m = 12 := by unfold putE; rw [if_neg (by omega), if_neg (by omega), if_neg (by omega), if_neg (by omega), if_pos h59]
                   refine ⟨by rw [e], H.fr, ?_⟩
                   unfold putD; rw [if_neg (by rw [e]; decide)]
                   exact H.joinB.ok _ List.mem_cons_self)
                | (have e : putE D p t m = 14 := by unfold putE; rw [if_neg (by omega), if_neg (by omega), if_neg (by omega), if_pos (by omega)]
                   refine ⟨by rw [e], H.fr, ?_⟩
                   unfold putD; rw [if_neg (by rw [e]; decide)]
                   exact H.joinB.ok _ List.mem_cons_self)
                | (have e : putE D p t m = 11 := by unfold putE; rw [if_neg (by omega), if_neg (by omega), if_pos (by omega)]
                   refine ⟨by rw [e], H.fr, ?_⟩
                   unfold putD; rw [if_neg (by rw [e]; decide)]
                   exact H.joinB.ok _ List.mem_cons_self)
                | (have e : putE D p t m = 1 := by unfold putE; rw [if_neg (by omega), if_pos (by omega)]
                   refine ⟨by rw [e], H.fr, ?_⟩
                   unfold putD; rw [if_neg (by rw [e]; decide)]
                   exact H.joinB.ok _ List.mem_cons_self)
                | (have e : putE D p t m = 3 := by unfold putE; rw [if_pos (by omega)]
                   refine ⟨by rw [e], H.fr, ?_⟩
                   unfold putD; rw [if_neg (by rw [e]; decide)]
                   exact H.joinB.ok _ List.mem_cons_self)

def takeP (D : Dk) (k : Nat) : List Int := (List.range k).map fun p => (D.l ((p : Nat), nextT D)).getD D.usual
theorem takeP_len (D : Dk) (k : Nat) : (takeP D k).length = k := by simp [takeP]
theorem takeP_succ (D : Dk) (k : Nat) (v : Int) (h : (D.l ((k : Nat), nextT D)).getD D.usual = v) : nums .u32 (takeP D k) ++ [.int .u32 v] = nums .u32 (takeP D (k + 1)) := by
  simp [takeP, nums, List.range_succ, h]
theorem takeM_self (D : Dk) (k : Nat) : takeM D k ((k : Nat), nextT D) = D.l ((k : Nat), nextT D) := by simp [takeM]
theorem takeM_succ (D : Dk) (k : Nat) : mdel (takeM D k) ((k : Nat), nextT D) = takeM D (k + 1) := by
  funext ⟨p, t⟩
  simp only [mdel, takeM, Prod.mk.injEq]
  by_cases h1 : p = (k : Int) ∧ t = nextT D
  · rw [if_pos h1, if_pos (by omega)]
  · rw [if_neg h1]
    by_cases h2 : 0 ≤ p ∧ p < k ∧ t = nextT D
    · rw [if_pos h2, if_pos (by omega)]
    · rw [if_neg h2, if_neg (by omega)]
theorem takeM_zero (D : Dk) : takeM D 0 = D.l := by
  funext ⟨p, t⟩
  simp only [takeM]
  rw [if_neg (by omega)]
theorem nextT_in (D : Dk) : 0 ≤ nextT D ∧ nextT D ≤ 4294967295 := by unfold nextT; rw [IntKind.wrap_u32]; omega
theorem takeD_ok (D : Dk) (h : D.ok) : (takeD D).ok := ⟨h.pl0, h.pl1, h.moves0, h.moves1, h.usual0, h.usual1, (nextT_in D).1, (nextT_in D).2⟩
theorem putD_ok (D : Dk) (p t m : Int) (h : D.ok) : (putD D p t m).ok := by
  unfold putD
  split
  · exact ⟨h.pl0, h.pl1, h.moves0, h.moves1, h.usual0, h.usual1, h.tick0, h.tick1⟩
  · exact h

theorem take_ok (W : World) (d b : Nat) (D : Dk) (h : (deskc d b D).ok W) (hD : D.ok) (hpl : D.pl ≤ 1000) :
    Calls Try.prog 14 #[.pointer (some ⟨d, 0, none⟩)] W fun e w' => ∃ A c, e = .returned (.slice A (takeL D).length c) ∧ Fr (deskc d b D).fp W w' ∧ (deskc d b (takeD D)).ok w' ∧ (row A c 22 1 (takeL D).length (nums .u32 (takeL D))).ok w' ∧ ∀ x, x ∈ (row A c 22 1 (takeL D).length (nums .u32 (takeL D))).fp → W.heap.size ≤ x := by
  obtain ⟨pl0, pl1, moves0, moves1, usual0, usual1, tick0, tick1⟩ := hD
  have H : St W (deskc d b D).fp [blk d (D.cells b) 70, mapc slotK numV slotG b D.l] [] W := (St.one h).splitB
  refine calls_enter (N := 59) Try.func14 rfl Try.ntmps14 rfl ?_
  refine WC_seq ?_
  refine WC_region ?_
  refine WL_x (x_assign (v := (.slice none 0 0)) rfl) ?_
  refine WL_nil ?_
  refine thenE_normal ?_
  refine WC_seq ?_
  refine WC_seq ?_
  refine WC_region ?_
  refine WL_x (x_move (v := .pointer _) rfl) ?_
  refine WL_x (x_ptr_eql_nil Try.underlying30 rfl rfl) ?_
  refine WL_nil ?_
  refine thenE_normal ?_
  refine WC_no rfl ?_
  refine WC_skip ?_
  refine thenE_normal ?_
  refine WC_seq ?_
  refine WC_region ?_
  refine WL_x (x_move (v := .pointer _) rfl) ?_
  refine WL_x (x_nilCheck rfl) ?_
  refine WL_x (x_fieldAddr (n := 0) (o' := 3) Try.underlying70 rfl (by kernel_rfl) rfl rfl) ?_
  first | refine WL_x (x_load (v := .int .u32 _) Try.underlying22 rfl rfl (H.cellAt .zero rfl)) ?_ | refine WL_x (x_load (v := .int .u32 _) Try.underlying22 rfl rfl (H.cellAt (.succ .zero) rfl)) ?_ | refine WL_x (x_load (v := .int .u32 _) Try.underlying22 rfl rfl (H.cellAt (.succ (.succ .zero)) rfl)) ?_ | refine WL_x (x_load (v := .int .u32 _) Try.underlying22 rfl rfl (H.cellAt (.succ (.succ (.succ .zero))) rfl)) ?_ | refine WL_x (x_load (v := .int .u32 _) Try.underlying22 rfl rfl (H.cellAt (.succ (.succ (.succ (.succ .zero)))) rfl)) ?_ | refine WL_x (x_load Try.underlying22 rfl rfl (H.rnum .zero (by omega) (by omega))) ?_ | refine WL_x (x_load Try.underlying22 rfl rfl (H.rnum (.succ .zero) (by omega) (by omega))) ?_ | refine WL_x (x_load Try.underlying22 rfl rfl (H.rnum (.succ (.succ .zero)) (by omega) (by omega))) ?_ | refine WL_x (x_load Try.underlying22 rfl rfl (H.onum .zero (by omega) (by omega))) ?_ | refine WL_x (x_load Try.underlying22 rfl rfl (H.onum (.succ .zero) (by omega) (by omega))) ?_ | refine WL_x (x_load Try.underlying22 rfl rfl (H.onum (.succ (.succ .zero)) (by omega) (by omega))) ?_
  refine WL_x (x_binop rfl rfl (r_add _ _ _ _)) ?_
  refine WL_x (x_nilCheck rfl) ?_
  refine WL_x (x_fieldAddr (n := 0) (o' := 3) Try.underlying70 rfl (by kernel_rfl) rfl rfl) ?_
  first | refine WL_store (v := .int .u32 _) Try.underlying22 rfl rfl rfl rfl (by kernel_rfl) H .zero (Nat.le_of_ble_eq_true rfl) rfl ?_ | refine WL_store (v := .int .u32 _) Try.underlying22 rfl rfl rfl rfl (by kernel_rfl) H (.succ .zero) (Nat.le_of_ble_eq_true rfl) rfl ?_ | refine WL_store (v := .int .u32 _) Try.underlying22 rfl rfl rfl rfl (by kernel_rfl) H (.succ (.succ .zero)) (Nat.le_of_ble_eq_true rfl) rfl ?_ | refine WL_store (v := .int .u32 _) Try.underlying22 rfl rfl rfl rfl (by kernel_rfl) H (.succ (.succ (.succ .zero))) (Nat.le_of_ble_eq_true rfl) rfl ?_ | refine WL_store (v := .int .u32 _) Try.underlying22 rfl rfl rfl rfl (by kernel_rfl) H (.succ (.succ (.succ (.succ .zero)))) (Nat.le_of_ble_eq_true rfl) rfl ?_
  clear H; intro w H
  try simp only [List.set_cons_succ, List.set_cons_zero] at H
  refine WL_nil ?_
  refine thenE_normal ?_
  refine WC_seq ?_
  have hin := nextT_in D
  replace H : St W (deskc d b D).fp [blk d (Dk.cells { D with tick := nextT D } b) 70, mapc slotK numV slotG b D.l] [] _ := H
  refine WC_region ?_
  refine WL_x (x_assign (v := (.slice none 0 0)) rfl) ?_
  refine WL_nil ?_
  refine thenE_normal ?_
  refine WC_seq ?_
  refine WC_seq ?_
  refine WC_region ?_
  refine WL_x (x_move (v := .pointer _) rfl) ?_
  refine WL_x (x_nilCheck rfl) ?_
  refine WL_x (x_fieldAddr (n := 0) (o' := 0) Try.underlying70 rfl (by kernel_rfl) rfl rfl) ?_
  first | refine WL_x (x_load (v := .int .i64 _) Try.underlying3 rfl rfl (H.cellAt .zero rfl)) ?_ | refine WL_x (x_load (v := .int .i64 _) Try.underlying3 rfl rfl (H.cellAt (.succ .zero) rfl)) ?_ | refine WL_x (x_load (v := .int .i64 _) Try.underlying3 rfl rfl (H.cellAt (.succ (.succ .zero)) rfl)) ?_ | refine WL_x (x_load (v := .int .i64 _) Try.underlying3 rfl rfl (H.cellAt (.succ (.succ (.succ .zero))) rfl)) ?_ | refine WL_x (x_load (v := .int .i64 _) Try.underlying3 rfl rfl (H.cellAt (.succ (.succ (.succ (.succ .zero)))) rfl)) ?_ | refine WL_x (x_load Try.underlying3 rfl rfl (H.rnum .zero (by omega) (by omega))) ?_ | refine WL_x (x_load Try.underlying3 rfl rfl (H.rnum (.succ .zero) (by omega) (by omega))) ?_ | refine WL_x (x_load Try.underlying3 rfl rfl (H.rnum (.succ (.succ .zero)) (by omega) (by omega))) ?_ | refine WL_x (x_load Try.underlying3 rfl rfl (H.onum .zero (by omega) (by omega))) ?_ | refine WL_x (x_load Try.underlying3 rfl rfl (H.onum (.succ .zero) (by omega) (by omega))) ?_ | refine WL_x (x_load Try.underlying3 rfl rfl (H.onum (.succ (.succ .zero)) (by omega) (by omega))) ?_
  refine WL_x (x_move (v := (.int .i64 0)) rfl) ?_
  refine WL_nil ?_
  refine thenE_normal ?_
  refine WC_block ?_
  refine WC_while (fun (s : Nat × Option Addr × Nat) f w' => s.1 ≤ D.pl.toNat ∧ f 20 = .int .i64 s.1 ∧ f 19 = .int .i64 D.pl ∧ f 0 = .pointer (some ⟨d, 0, none⟩) ∧ f 3 = .slice s.2.1 s.1 s.2.2 ∧ St W (deskc d b D).fp [row s.2.1 s.2.2 22 1 s.1 (nums .u32 (takeP D s.1)), blk d (Dk.cells { D with tick := nextT D } b) 70, mapc slotK numV slotG b (takeM D s.1)] [] w') (fun s => D.pl.toNat - s.1) (s0 := (0, none, 0)) ?_ ?_
  · refine ⟨Nat.zero_le _, rfl, rfl, rfl, rfl, ?_⟩
    rw [takeM_zero]
    exact H.nilRow 22 1
  · clear H
    rintro ⟨k, A, c⟩ f w ⟨hk, h20, h19, h0, h3, H⟩
    simp only at hk h20 h19 h0 h3 H
    rw [← upd_self h20, ← upd_self h19, ← upd_self h0, ← upd_self h3]
    refine WC_seq ?_
    refine WC_region ?_
    refine WL_x (x_binop rfl rfl (r_lss _ _ _ _)) ?_
    refine WL_nil ?_
    refine thenE_normal ?_
    refine WC_seq ?_
    refine WC_ifd rfl (fun h21 => ?_) (fun h21 => ?_)
    · have hk21 : k < D.pl.toNat := by omega
      refine WC_skip ?_
      refine thenE_normal ?_
      refine WC_seq ?_
      refine WC_block ?_
      refine WC_seq ?_
      refine WC_region ?_
      refine WL_x (x_move (v := .int .i64 _) rfl) ?_
      refine WL_x (x_assign (v := .int .i64 _) rfl) ?_
      refine WL_nil ?_
      refine thenE_normal ?_
      refine WC_seq ?_
      refine WC_drawH (m := 16) (listed := [false, false, false, false, false, false, false, false, false, false, false, false, false, false, false, false]) 16 (by kernel_rfl) rfl rfl H ?_
      intro w H
      refine WG_take (i := 0) (listed' := [true, false, false, false, false, false, false, false, false, false, false, false, false, false, false, false]) rfl (by kernel_rfl) (fun w H => x_move (v := .pointer _) rfl) H rfl ?_
      refine WG_take (i := 1) (listed' := [true, true, false, false, false, false, false, false, false, false, false, false, false, false, false, false]) rfl (by kernel_rfl) (fun w H => x_nilCheck rfl) H rfl ?_
      refine WG_take (i := 2) (listed' := [true, true, true, false, false, false, false, false, false, false, false, false, false, false, false, false]) rfl (by kernel_rfl) (fun w H => x_fieldAddr (n := 0) (o' := 4) Try.underlying70 rfl (by kernel_rfl) rfl rfl) H rfl ?_
      first | refine WG_take (i := 3) (listed' := [true, true, true, true, false, false, false, false, false, false, false, false, false, false, false, false]) rfl (by kernel_rfl) (fun w H => x_load (v := .map _) Try.underlying68 rfl rfl (H.cellAt .zero rfl)) H rfl ?_ | refine WG_take (i := 3) (listed' := [true, true, true, true, false, false, false, false, false, false, false, false, false, false, false, false]) rfl (by kernel_rfl) (fun w H => x_load (v := .map _) Try.underlying68 rfl rfl (H.cellAt (.succ .zero) rfl)) H rfl ?_ | refine WG_take (i := 3) (listed' := [true, true, true, true, false, false, false, false, false, false, false, false, false, false, false, false]) rfl (by kernel_rfl) (fun w H => x_load (v := .map _) Try.underlying68 rfl rfl (H.cellAt (.succ (.succ .zero)) rfl)) H rfl ?_ | refine WG_take (i := 3) (listed' := [true, true, true, true, false, false, false, false, false, false, false, false, false, false, false, false]) rfl (by kernel_rfl) (fun w H => x_load (v := .map _) Try.underlying68 rfl rfl (H.cellAt (.succ (.succ (.succ .zero))) rfl)) H rfl ?_ | refine WG_take (i := 3) (listed' := [true, true, true, true, false, false, false, false, false, false, false, false, false, false, false, false]) rfl (by kernel_rfl) (fun w H => x_load (v := .map _) Try.underlying68 rfl rfl (H.cellAt (.succ (.succ (.succ (.succ .zero)))) rfl)) H rfl ?_
      refine WG_take (i := 4) (listed' := [true, true, true, true, true, false, false, false, false, false, false, false, false, false, false, false]) rfl (by kernel_rfl) (fun w H => x_move (v := .int .i64 _) rfl) H rfl ?_
      refine WG_take (i := 5) (listed' := [true, true, true, true, true, true, false, false, false, false, false, false, false, false, false, false]) rfl (by kernel_rfl) (fun w H => x_move (v := .pointer _) rfl) H rfl ?_
      refine WG_take (i := 6) (listed' := [true, true, true, true, true, true, true, false, false, false, false, false, false, false, false, false]) rfl (by kernel_rfl) (fun w H => x_nilCheck rfl) H rfl ?_
      refine WG_take (i := 7) (listed' := [true, true, true, true, true, true, true, true, false, false, false, false, false, false, false, false]) rfl (by kernel_rfl) (fun w H => x_fieldAddr (n := 0) (o' := 3) Try.underlying70 rfl (by kernel_rfl) rfl rfl) H rfl ?_
      first | refine WG_take (i := 8) (listed' := [true, true, true, true, true, true, true, true, true, false, false, false, false, false, false, false]) rfl (by kernel_rfl) (fun w H => x_load (v := .int .u32 _) Try.underlying22 rfl rfl (H.cellAt .zero rfl)) H rfl ?_ | refine WG_take (i := 8) (listed' := [true, true, true, true, true, true, true, true, true, false, false, false, false, false, false, false]) rfl (by kernel_rfl) (fun w H => x_load (v := .int .u32 _) Try.underlying22 rfl rfl (H.cellAt (.succ .zero) rfl)) H rfl ?_ | refine WG_take (i := 8) (listed' := [true, true, true, true, true, true, true, true, true, false, false, false, false, false, false, false]) rfl (by kernel_rfl) (fun w H => x_load (v := .int .u32 _) Try.underlying22 rfl rfl (H.cellAt (.succ (.succ .zero)) rfl)) H rfl ?_ | refine WG_take (i := 8) (listed' := [true, true, true, true, true, true, true, true, true, false, false, false, false, false, false, false]) rfl (by kernel_rfl) (fun w H => x_load (v := .int .u32 _) Try.underlying22 rfl rfl (H.cellAt (.succ (.succ (.succ .zero))) rfl)) H rfl ?_ | refine WG_take (i := 8) (listed' := [true, true, true, true, true, true, true, true, true, false, false, false, false, false, false, false]) rfl (by kernel_rfl) (fun w H => x_load (v := .int .u32 _) Try.underlying22 rfl rfl (H.cellAt (.succ (.succ (.succ (.succ .zero)))) rfl)) H rfl ?_ | refine WG_take (i := 8) (listed' := [true, true, true, true, true, true, true, true, true, false, false, false, false, false, false, false]) rfl (by kernel_rfl) (fun w H => x_load Try.underlying22 rfl rfl (H.rnum .zero (by omega) (by omega))) H rfl ?_ | refine WG_take (i := 8) (listed' := [true, true, true, true, true, true, true, true, true, false, false, false, false, false, false, false]) rfl (by kernel_rfl) (fun w H => x_load Try.underlying22 rfl rfl (H.rnum (.succ .zero) (by omega) (by omega))) H rfl ?_ | refine WG_take (i := 8) (listed' := [true, true, true, true, true, true, true, true, true, false, false, false, false, false, false, false]) rfl (by kernel_rfl) (fun w H => x_load Try.underlying22 rfl rfl (H.rnum (.succ (.succ .zero)) (by omega) (by omega))) H rfl ?_ | refine WG_take (i := 8) (listed' := [true, true, true, true, true, true, true, true, true, false, false, false, false, false, false, false]) rfl (by kernel_rfl) (fun w H => x_load Try.underlying22 rfl rfl (H.onum .zero (by omega) (by omega))) H rfl ?_ | refine WG_take (i := 8) (listed' := [true, true, true, true, true, true, true, true, true, false, false, false, false, false, false, false]) rfl (by kernel_rfl) (fun w H => x_load Try.underlying22 rfl rfl (H.onum (.succ .zero) (by omega) (by omega))) H rfl ?_ | refine WG_take (i := 8) (listed' := [true, true, true, true, true, true, true, true, true, false, false, false, false, false, false, false]) rfl (by kernel_rfl) (fun w H => x_load Try.underlying22 rfl rfl (H.onum (.succ (.succ .zero)) (by omega) (by omega))) H rfl ?_
      refine WG_take (i := 9) (listed' := [true, true, true, true, true, true, true, true, true, true, false, false, false, false, false, false]) rfl (by kernel_rfl) (fun w H => x_buildS (pl := [(0, 1), (1, 1)]) (zero := [(.int .i64 0), (.int .u32 0)]) (cells := [_, _]) (vs := [(0, .int .i64 _), (1, .int .u32 _)]) Try.underlying73 (by kernel_rfl) (by kernel_rfl) (by kernel_rfl) rfl rfl) H rfl ?_
      first | refine WG_take (i := 10) (listed' := [true, true, true, true, true, true, true, true, true, true, true, false, false, false, false, false]) rfl (by kernel_rfl) (fun w H => x_lookup2 (eK := slotK) (eV := numV) (g := slotG) (a := ((k : Nat), nextT D)) slotT Try.underlying68 (by kernel_rfl) rfl rfl (slotG_mk (by omega) (by omega) hin.1 hin.2) (H.get (Has.mem .zero)) (numV_get _) rfl) H rfl ?_ | refine WG_take (i := 10) (listed' := [true, true, true, true, true, true, true, true, true, true, true, false, false, false, false, false]) rfl (by kernel_rfl) (fun w H => x_lookup2 (eK := slotK) (eV := numV) (g := slotG) (a := ((k : Nat), nextT D)) slotT Try.underlying68 (by kernel_rfl) rfl rfl (slotG_mk (by omega) (by omega) hin.1 hin.2) (H.get (Has.mem (.succ .zero))) (numV_get _) rfl) H rfl ?_ | refine WG_take (i := 10) (listed' := [true, true, true, true, true, true, true, true, true, true, true, false, false, false, false, false]) rfl (by kernel_rfl) (fun w H => x_lookup2 (eK := slotK) (eV := numV) (g := slotG) (a := ((k : Nat), nextT D)) slotT Try.underlying68 (by kernel_rfl) rfl rfl (slotG_mk (by omega) (by omega) hin.1 hin.2) (H.get (Has.mem (.succ (.succ .zero)))) (numV_get _) rfl) H rfl ?_ | refine WG_take (i := 10) (listed' := [true, true, true, true, true, true, true, true, true, true, true, false, false, false, false, false]) rfl (by kernel_rfl) (fun w H => x_lookup2 (eK := slotK) (eV := numV) (g := slotG) (a := ((k : Nat), nextT D)) slotT Try.underlying68 (by kernel_rfl) rfl rfl (slotG_mk (by omega) (by omega) hin.1 hin.2) (H.get (Has.mem (.succ (.succ (.succ .zero))))) (numV_get _) rfl) H rfl ?_ | refine WG_take (i := 10) (listed' := [true, true, true, true, true, true, true, true, true, true, true, false, false, false, false, false]) rfl (by kernel_rfl) (fun w H => x_lookup2 (eK := slotK) (eV := numV) (g := slotG) (a := ((k : Nat), nextT D)) slotT Try.underlying68 (by kernel_rfl) rfl rfl (slotG_mk (by omega) (by omega) hin.1 hin.2) (H.get (Has.mem (.succ (.succ (.succ (.succ .zero)))))) (numV_get _) rfl) H rfl ?_
      refine WG_take (i := 11) (listed' := [true, true, true, true, true, true, true, true, true, true, true, true, false, false, false, false]) rfl (by kernel_rfl) (fun w H => x_move (v := .tuple _) rfl) H rfl ?_
      refine WG_take (i := 12) (listed' := [true, true, true, true, true, true, true, true, true, true, true, true, true, false, false, false]) rfl (by kernel_rfl) (fun w H => x_extract (v := .int .u32 _) rfl rfl) H rfl ?_
      refine WG_take (i := 13) (listed' := [true, true, true, true, true, true, true, true, true, true, true, true, true, true, false, false]) rfl (by kernel_rfl) (fun w H => x_extract (v := .bool _) rfl rfl) H rfl ?_
      refine WG_take (i := 14) (listed' := [true, true, true, true, true, true, true, true, true, true, true, true, true, true, true, false]) rfl (by kernel_rfl) (fun w H => x_assign (v := .int .u32 _) rfl) H rfl ?_
      refine WG_take (i := 15) (listed' := [true, true, true, true, true, true, true, true, true, true, true, true, true, true, true, true]) rfl (by kernel_rfl) (fun w H => x_assign (v := .bool _) rfl) H rfl ?_
      refine WG_done (by kernel_rfl) ?_
      refine thenE_normal ?_
      refine WC_seq ?_
      refine WC_seq ?_
      refine WC_region ?_
      refine WL_x (x_move (v := .bool _) rfl) ?_
      refine WL_x (x_not rfl) ?_
      refine WL_nil ?_
      refine thenE_normal ?_
      refine WC_if rfl (fun h38 => ?_) (fun h38 => ?_)
      · refine WC_region ?_
        refine WL_x (x_move (v := .pointer _) rfl) ?_
        refine WL_x (x_nilCheck rfl) ?_
        refine WL_x (x_fieldAddr (n := 0) (o' := 2) Try.underlying70 rfl (by kernel_rfl) rfl rfl) ?_
        first | refine WL_x (x_load (v := .int .u32 _) Try.underlying22 rfl rfl (H.cellAt .zero rfl)) ?_ | refine WL_x (x_load (v := .int .u32 _) Try.underlying22 rfl rfl (H.cellAt (.succ .zero) rfl)) ?_ | refine WL_x (x_load (v := .int .u32 _) Try.underlying22 rfl rfl (H.cellAt (.succ (.succ .zero)) rfl)) ?_ | refine WL_x (x_load (v := .int .u32 _) Try.underlying22 rfl rfl (H.cellAt (.succ (.succ (.succ .zero))) rfl)) ?_ | refine WL_x (x_load (v := .int .u32 _) Try.underlying22 rfl rfl (H.cellAt (.succ (.succ (.succ (.succ .zero)))) rfl)) ?_ | refine WL_x (x_load Try.underlying22 rfl rfl (H.rnum .zero (by omega) (by omega))) ?_ | refine WL_x (x_load Try.underlying22 rfl rfl (H.rnum (.succ .zero) (by omega) (by omega))) ?_ | refine WL_x (x_load Try.underlying22 rfl rfl (H.rnum (.succ (.succ .zero)) (by omega) (by omega))) ?_ | refine WL_x (x_load Try.underlying22 rfl rfl (H.onum .zero (by omega) (by omega))) ?_ | refine WL_x (x_load Try.underlying22 rfl rfl (H.onum (.succ .zero) (by omega) (by omega))) ?_ | refine WL_x (x_load Try.underlying22 rfl rfl (H.onum (.succ (.succ .zero)) (by omega) (by omega))) ?_
        refine WL_x (x_assign (v := .int .u32 _) rfl) ?_
        refine WL_nil ?_
        refine thenE_normal ?_
        refine WC_seq ?_
        refine WC_region ?_
        refine WL_x (x_move (v := .slice _ _ _) rfl) ?_
        refine WL_x (x_move (v := .int .u32 _) rfl) ?_
        refine WL_buildSliceS (s := 1) (z0 := [(.int .u32 0)]) (zero := [(.int .u32 0)]) (cells := [_]) (vs := [(0, .int .u32 _)]) Try.underlying33 (by kernel_rfl) (by kernel_rfl) rfl rfl rfl rfl H ?_
        clear H; intro b45 w H
        refine WL_append (i := Try.t22) (bytes := 4) (size := 1) Try.underlying33 (by kernel_rfl) rfl rfl rfl (by kernel_rfl) rfl rfl rfl H (fun _ _ => .succ .zero) (rfl) (blk_cells (H.get (Has.mem .zero))) (by simp [Value.oneCell']) (by simp only [maxLen]; omega) (by omega) ?_
        clear H; intro A46 c46 w H
        replace H := H.pop
        refine WL_x (x_assign (v := .slice _ _ _) rfl) ?_
        refine WL_nil ?_
        refine thenE_normal ?_
        refine WC_drawH (m := 11) (listed := [false, false, false, false, false, false, false, false, false, false, false]) 10 (by kernel_rfl) rfl rfl H ?_
        intro w H
        refine WG_take (i := 0) (listed' := [true, false, false, false, false, false, false, false, false, false, false]) rfl (by kernel_rfl) (fun w H => x_move (v := .pointer _) rfl) H rfl ?_
        refine WG_take (i := 1) (listed' := [true, true, false, false, false, false, false, false, false, false, false]) rfl (by kernel_rfl) (fun w H => x_nilCheck rfl) H rfl ?_
        refine WG_take (i := 2) (listed' := [true, true, true, false, false, false, false, false, false, false, false]) rfl (by kernel_rfl) (fun w H => x_fieldAddr (n := 0) (o' := 4) Try.underlying70 rfl (by kernel_rfl) rfl rfl) H rfl ?_
        first | refine WG_take (i := 3) (listed' := [true, true, true, true, false, false, false, false, false, false, false]) rfl (by kernel_rfl) (fun w H => x_load (v := .map _) Try.underlying68 rfl rfl (H.cellAt .zero rfl)) H rfl ?_ | refine WG_take (i := 3) (listed' := [true, true, true, true, false, false, false, false, false, false, false]) rfl (by kernel_rfl) (fun w H => x_load (v := .map _) Try.underlying68 rfl rfl (H.cellAt (.succ .zero) rfl)) H rfl ?_ | refine WG_take (i := 3) (listed' := [true, true, true, true, false, false, false, false, false, false, false]) rfl (by kernel_rfl) (fun w H => x_load (v := .map _) Try.underlying68 rfl rfl (H.cellAt (.succ (.succ .zero)) rfl)) H rfl ?_ | refine WG_take (i := 3) (listed' := [true, true, true, true, false, false, false, false, false, false, false]) rfl (by kernel_rfl) (fun w H => x_load (v := .map _) Try.underlying68 rfl rfl (H.cellAt (.succ (.succ (.succ .zero))) rfl)) H rfl ?_ | refine WG_take (i := 3) (listed' := [true, true, true, true, false, false, false, false, false, false, false]) rfl (by kernel_rfl) (fun w H => x_load (v := .map _) Try.underlying68 rfl rfl (H.cellAt (.succ (.succ (.succ (.succ .zero)))) rfl)) H rfl ?_
        refine WG_take (i := 4) (listed' := [true, true, true, true, true, false, false, false, false, false, false]) rfl (by kernel_rfl) (fun w H => x_move (v := .int .i64 _) rfl) H rfl ?_
        refine WG_take (i := 5) (listed' := [true, true, true, true, true, true, false, false, false, false, false]) rfl (by kernel_rfl) (fun w H => x_move (v := .pointer _) rfl) H rfl ?_
        refine WG_take (i := 6) (listed' := [true, true, true, true, true, true, true, false, false, false, false]) rfl (by kernel_rfl) (fun w H => x_nilCheck rfl) H rfl ?_
        refine WG_take (i := 7) (listed' := [true, true, true, true, true, true, true, true, false, false, false]) rfl (by kernel_rfl) (fun w H => x_fieldAddr (n := 0) (o' := 3) Try.underlying70 rfl (by kernel_rfl) rfl rfl) H rfl ?_
        first | refine WG_take (i := 8) (listed' := [true, true, true, true, true, true, true, true, true, false, false]) rfl (by kernel_rfl) (fun w H => x_load (v := .int .u32 _) Try.underlying22 rfl rfl (H.cellAt .zero rfl)) H rfl ?_ | refine WG_take (i := 8) (listed' := [true, true, true, true, true, true, true, true, true, false, false]) rfl (by kernel_rfl) (fun w H => x_load (v := .int .u32 _) Try.underlying22 rfl rfl (H.cellAt (.succ .zero) rfl)) H rfl ?_ | refine WG_take (i := 8) (listed' := [true, true, true, true, true, true, true, true, true, false, false]) rfl (by kernel_rfl) (fun w H => x_load (v := .int .u32 _) Try.underlying22 rfl rfl (H.cellAt (.succ (.succ .zero)) rfl)) H rfl ?_ | refine WG_take (i := 8) (listed' := [true, true, true, true, true, true, true, true, true, false, false]) rfl (by kernel_rfl) (fun w H => x_load (v := .int .u32 _) Try.underlying22 rfl rfl (H.cellAt (.succ (.succ (.succ .zero))) rfl)) H rfl ?_ | refine WG_take (i := 8) (listed' := [true, true, true, true, true, true, true, true, true, false, false]) rfl (by kernel_rfl) (fun w H => x_load (v := .int .u32 _) Try.underlying22 rfl rfl (H.cellAt (.succ (.succ (.succ (.succ .zero)))) rfl)) H rfl ?_ | refine WG_take (i := 8) (listed' := [true, true, true, true, true, true, true, true, true, false, false]) rfl (by kernel_rfl) (fun w H => x_load Try.underlying22 rfl rfl (H.rnum .zero (by omega) (by omega))) H rfl ?_ | refine WG_take (i := 8) (listed' := [true, true, true, true, true, true, true, true, true, false, false]) rfl (by kernel_rfl) (fun w H => x_load Try.underlying22 rfl rfl (H.rnum (.succ .zero) (by omega) (by omega))) H rfl ?_ | refine WG_take (i := 8) (listed' := [true, true, true, true, true, true, true, true, true, false, false]) rfl (by kernel_rfl) (fun w H => x_load Try.underlying22 rfl rfl (H.rnum (.succ (.succ .zero)) (by omega) (by omega))) H rfl ?_ | refine WG_take (i := 8) (listed' := [true, true, true, true, true, true, true, true, true, false, false]) rfl (by kernel_rfl) (fun w H => x_load Try.underlying22 rfl rfl (H.onum .zero (by omega) (by omega))) H rfl ?_ | refine WG_take (i := 8) (listed' := [true, true, true, true, true, true, true, true, true, false, false]) rfl (by kernel_rfl) (fun w H => x_load Try.underlying22 rfl rfl (H.onum (.succ .zero) (by omega) (by omega))) H rfl ?_ | refine WG_take (i := 8) (listed' := [true, true, true, true, true, true, true, true, true, false, false]) rfl (by kernel_rfl) (fun w H => x_load Try.underlying22 rfl rfl (H.onum (.succ (.succ .zero)) (by omega) (by omega))) H rfl ?_
        refine WG_take (i := 9) (listed' := [true, true, true, true, true, true, true, true, true, true, false]) rfl (by kernel_rfl) (fun w H => x_buildS (pl := [(0, 1), (1, 1)]) (zero := [(.int .i64 0), (.int .u32 0)]) (cells := [_, _]) (vs := [(0, .int .i64 _), (1, .int .u32 _)]) Try.underlying73 (by kernel_rfl) (by kernel_rfl) (by kernel_rfl) rfl rfl) H rfl ?_
        refine WG_fin (listed' := [true, true, true, true, true, true, true, true, true, true, true]) rfl rfl (by kernel_rfl) rfl (by kernel_rfl) ?_
        first | refine WL_delete (eK := slotK) (eV := numV) (g := slotG) (a := ((k : Nat), nextT D)) slotT Try.underlying68 rfl rfl (slotG_mk (by omega) (by omega) hin.1 hin.2) H .zero ?_ | refine WL_delete (eK := slotK) (eV := numV) (g := slotG) (a := ((k : Nat), nextT D)) slotT Try.underlying68 rfl rfl (slotG_mk (by omega) (by omega) hin.1 hin.2) H (.succ .zero) ?_ | refine WL_delete (eK := slotK) (eV := numV) (g := slotG) (a := ((k : Nat), nextT D)) slotT Try.underlying68 rfl rfl (slotG_mk (by omega) (by omega) hin.1 hin.2) H (.succ (.succ .zero)) ?_ | refine WL_delete (eK := slotK) (eV := numV) (g := slotG) (a := ((k : Nat), nextT D)) slotT Try.underlying68 rfl rfl (slotG_mk (by omega) (by omega) hin.1 hin.2) H (.succ (.succ (.succ .zero))) ?_ | refine WL_delete (eK := slotK) (eV := numV) (g := slotG) (a := ((k : Nat), nextT D)) slotT Try.underlying68 rfl rfl (slotG_mk (by omega) (by omega) hin.1 hin.2) H (.succ (.succ (.succ (.succ .zero)))) ?_
        clear H; intro w H
        refine WL_nil ?_
        refine fin_mk ?_
        refine inBlockE_normal ?_
        refine thenE_normal ?_
        refine WC_region ?_
        refine WL_x (x_binop rfl rfl (r_add_in (i64_in (by omega) (by omega)))) ?_
        refine WL_x (x_move (v := .int .i64 _) rfl) ?_
        refine WL_nil ?_
        refine thenE_normal ?_
        refine ⟨(k + 1, A46, c46), ⟨by simp only; omega, by simp [upd], rfl, rfl, rfl, ?_⟩, by simp only; omega⟩
        simp only
        first
          | rw [takeM_succ, takeP_succ D k _ (by rw [← takeM_self]; cases hc : takeM D k ((k : Nat), nextT D) <;> simp_all)] at H
        exact H
      · refine WC_skip ?_
        refine thenE_normal ?_
        refine WC_seq ?_
        refine WC_region ?_
        refine WL_x (x_move (v := .slice _ _ _) rfl) ?_
        refine WL_x (x_move (v := .int .u32 _) rfl) ?_
        refine WL_buildSliceS (s := 1) (z0 := [(.int .u32 0)]) (zero := [(.int .u32 0)]) (cells := [_]) (vs := [(0, .int .u32 _)]) Try.underlying33 (by kernel_rfl) (by kernel_rfl) rfl rfl rfl rfl H ?_
        clear H; intro b45 w H
        refine WL_append (i := Try.t22) (bytes := 4) (size := 1) Try.underlying33 (by kernel_rfl) rfl rfl rfl (by kernel_rfl) rfl rfl rfl H (fun _ _ => .succ .zero) (rfl) (blk_cells (H.get (Has.mem .zero))) (by simp [Value.oneCell']) (by simp only [maxLen]; omega) (by omega) ?_
        clear H; intro A46 c46 w H
        replace H := H.pop
        refine WL_x (x_assign (v := .slice _ _ _) rfl) ?_
        refine WL_nil ?_
        refine thenE_normal ?_
        refine WC_drawH (m := 11) (listed := [false, false, false, false, false, false, false, false, false, false, false]) 10 (by kernel_rfl) rfl rfl H ?_
        intro w H
        refine WG_take (i := 0) (listed' := [true, false, false, false, false, false, false, false, false, false, false]) rfl (by kernel_rfl) (fun w H => x_move (v := .pointer _) rfl) H rfl ?_
        refine WG_take (i := 1) (listed' := [true, true, false, false, false, false, false, false, false, false, false]) rfl (by kernel_rfl) (fun w H => x_nilCheck rfl) H rfl ?_
        refine WG_take (i := 2) (listed' := [true, true, true, false, false, false, false, false, false, false, false]) rfl (by kernel_rfl) (fun w H => x_fieldAddr (n := 0) (o' := 4) Try.underlying70 rfl (by kernel_rfl) rfl rfl) H rfl ?_
        first | refine WG_take (i := 3) (listed' := [true, true, true, true, false, false, false, false, false, false, false]) rfl (by kernel_rfl) (fun w H => x_load (v := .map _) Try.underlying68 rfl rfl (H.cellAt .zero rfl)) H rfl ?_ | refine WG_take (i := 3) (listed' := [true, true, true, true, false, false, false, false, false, false, false]) rfl (by kernel_rfl) (fun w H => x_load (v := .map _) Try.underlying68 rfl rfl (H.cellAt (.succ .zero) rfl)) H rfl ?_ | refine WG_take (i := 3) (listed' := [true, true, true, true, false, false, false, false, false, false, false]) rfl (by kernel_rfl) (fun w H => x_load (v := .map _) Try.underlying68 rfl rfl (H.cellAt (.succ (.succ .zero)) rfl)) H rfl ?_ | refine WG_take (i := 3) (listed' := [true, true, true, true, false, false, false, false, false, false, false]) rfl (by kernel_rfl) (fun w H => x_load (v := .map _) Try.underlying68 rfl rfl (H.cellAt (.succ (.succ (.succ .zero))) rfl)) H rfl ?_ | refine WG_take (i := 3) (listed' := [true, true, true, true, false, false, false, false, false, false, false]) rfl (by kernel_rfl) (fun w H => x_load (v := .map _) Try.underlying68 rfl rfl (H.cellAt (.succ (.succ (.succ (.succ .zero)))) rfl)) H rfl ?_
        refine WG_take (i := 4) (listed' := [true, true, true, true, true, false, false, false, false, false, false]) rfl (by kernel_rfl) (fun w H => x_move (v := .int .i64 _) rfl) H rfl ?_
        refine WG_take (i := 5) (listed' := [true, true, true, true, true, true, false, false, false, false, false]) rfl (by kernel_rfl) (fun w H => x_move (v := .pointer _) rfl) H rfl ?_
        refine WG_take (i := 6) (listed' := [true, true, true, true, true, true, true, false, false, false, false]) rfl (by kernel_rfl) (fun w H => x_nilCheck rfl) H rfl ?_
        refine WG_take (i := 7) (listed' := [true, true, true, true, true, true, true, true, false, false, false]) rfl (by kernel_rfl) (fun w H => x_fieldAddr (n := 0) (o' := 3) Try.underlying70 rfl (by kernel_rfl) rfl rfl) H rfl ?_
        first | refine WG_take (i := 8) (listed' := [true, true, true, true, true, true, true, true, true, false, false]) rfl (by kernel_rfl) (fun w H => x_load (v := .int .u32 _) Try.underlying22 rfl rfl (H.cellAt .zero rfl)) H rfl ?_ | refine WG_take (i := 8) (listed' := [true, true, true, true, true, true, true, true, true, false, false]) rfl (by kernel_rfl) (fun w H => x_load (v := .int .u32 _) Try.underlying22 rfl rfl (H.cellAt (.succ .zero) rfl)) H rfl ?_ | refine WG_take (i := 8) (listed' := [true, true, true, true, true, true, true, true, true, false, false]) rfl (by kernel_rfl) (fun w H => x_load (v := .int .u32 _) Try.underlying22 rfl rfl (H.cellAt (.succ (.succ .zero)) rfl)) H rfl ?_ | refine WG_take (i := 8) (listed' := [true, true, true, true, true, true, true, true, true, false, false]) rfl (by kernel_rfl) (fun w H => x_load (v := .int .u32 _) Try.underlying22 rfl rfl (H.cellAt (.succ (.succ (.succ .zero))) rfl)) H rfl ?_ | refine WG_take (i := 8) (listed' := [true, true, true, true, true, true, true, true, true, false, false]) rfl (by kernel_rfl) (fun w H => x_load (v := .int .u32 _) Try.underlying22 rfl rfl (H.cellAt (.succ (.succ (.succ (.succ .zero)))) rfl)) H rfl ?_ | refine WG_take (i := 8) (listed' := [true, true, true, true, true, true, true, true, true, false, false]) rfl (by kernel_rfl) (fun w H => x_load Try.underlying22 rfl rfl (H.rnum .zero (by omega) (by omega))) H rfl ?_ | refine WG_take (i := 8) (listed' := [true, true, true, true, true, true, true, true, true, false, false]) rfl (by kernel_rfl) (fun w H => x_load Try.underlying22 rfl rfl (H.rnum (.succ .zero) (by omega) (by omega))) H rfl ?_ | refine WG_take (i := 8) (listed' := [true, true, true, true, true, true, true, true, true, false, false]) rfl (by kernel_rfl) (fun w H => x_load Try.underlying22 rfl rfl (H.rnum (.succ (.succ .zero)) (by omega) (by omega))) H rfl ?_ | refine WG_take (i := 8) (listed' := [true, true, true, true, true, true, true, true, true, false, false]) rfl (by kernel_rfl) (fun w H => x_load Try.underlying22 rfl rfl (H.onum .zero (by omega) (by omega))) H rfl ?_ | refine WG_take (i := 8) (listed' := [true, true, true, true, true, true, true, true, true, false, false]) rfl (by kernel_rfl) (fun w H => x_load Try.underlying22 rfl rfl (H.onum (.succ .zero) (by omega) (by omega))) H rfl ?_ | refine WG_take (i := 8) (listed' := [true, true, true, true, true, true, true, true, true, false, false]) rfl (by kernel_rfl) (fun w H => x_load Try.underlying22 rfl rfl (H.onum (.succ (.succ .zero)) (by omega) (by omega))) H rfl ?_
        refine WG_take (i := 9) (listed' := [true, true, true, true, true, true, true, true, true, true, false]) rfl (by kernel_rfl) (fun w H => x_buildS (pl := [(0, 1), (1, 1)]) (zero := [(.int .i64 0), (.int .u32 0)]) (cells := [_, _]) (vs := [(0, .int .i64 _), (1, .int .u32 _)]) Try.underlying73 (by kernel_rfl) (by kernel_rfl) (by kernel_rfl) rfl rfl) H rfl ?_
        refine WG_fin (listed' := [true, true, true, true, true, true, true, true, true, true, true]) rfl rfl (by kernel_rfl) rfl (by kernel_rfl) ?_
        first | refine WL_delete (eK := slotK) (eV := numV) (g := slotG) (a := ((k : Nat), nextT D)) slotT Try.underlying68 rfl rfl (slotG_mk (by omega) (by omega) hin.1 hin.2) H .zero ?_ | refine WL_delete (eK := slotK) (eV := numV) (g := slotG) (a := ((k : Nat), nextT D)) slotT Try.underlying68 rfl rfl (slotG_mk (by omega) (by omega) hin.1 hin.2) H (.succ .zero) ?_ | refine WL_delete (eK := slotK) (eV := numV) (g := slotG) (a := ((k : Nat), nextT D)) slotT Try.underlying68 rfl rfl (slotG_mk (by omega) (by omega) hin.1 hin.2) H (.succ (.succ .zero)) ?_ | refine WL_delete (eK := slotK) (eV := numV) (g := slotG) (a := ((k : Nat), nextT D)) slotT Try.underlying68 rfl rfl (slotG_mk (by omega) (by omega) hin.1 hin.2) H (.succ (.succ (.succ .zero))) ?_ | refine WL_delete (eK := slotK) (eV := numV) (g := slotG) (a := ((k : Nat), nextT D)) slotT Try.underlying68 rfl rfl (slotG_mk (by omega) (by omega) hin.1 hin.2) H (.succ (.succ (.succ (.succ .zero)))) ?_
        clear H; intro w H
        refine WL_nil ?_
        refine fin_mk ?_
        refine inBlockE_normal ?_
        refine thenE_normal ?_
        refine WC_region ?_
        refine WL_x (x_binop rfl rfl (r_add_in (i64_in (by omega) (by omega)))) ?_
        refine WL_x (x_move (v := .int .i64 _) rfl) ?_
        refine WL_nil ?_
        refine thenE_normal ?_
        refine ⟨(k + 1, A46, c46), ⟨by simp only; omega, by simp [upd], rfl, rfl, rfl, ?_⟩, by simp only; omega⟩
        simp only
        first
          | rw [takeM_succ, takeP_succ D k _ (by rw [← takeM_self]; cases hc : takeM D k ((k : Nat), nextT D) <;> simp_all)] at H
        exact H
    · obtain rfl : k = D.pl.toNat := by omega
      refine WC_exit ?_
      refine thenE_exit ?_
      refine thenE_exit ?_
      refine inBlockE_exit ?_
      refine thenE_normal ?_
      refine WC_seq ?_
      refine WC_region ?_
      refine WL_x (x_move (v := .slice _ _ _) rfl) ?_
      refine WL_x (x_assign (v := .slice _ _ _) rfl) ?_
      refine WL_nil ?_
      refine thenE_normal ?_
      refine WC_ret ?_
      refine ends1 (v := .slice _ _ _) Try.results14 rfl ?_
      have hl : (takeL D).length = D.pl.toNat := by simp [takeL]
      refine ⟨A, c, by rw [hl], H.fr, ?_, ?_, ?_⟩
      · exact H.pop.joinB.ok _ List.mem_cons_self
      · rw [hl]; exact H.ok _ List.mem_cons_self
      · rw [hl]
        exact H.freshOf (fun x hx => by
          simp only [deskc, both, blk, mapc, List.cons_append, List.nil_append, List.mem_cons, List.not_mem_nil, or_false] at hx
          rcases hx with rfl | rfl
          · exact ⟨_, Has.mem .zero, by simp [blk]⟩
          · exact ⟨_, Has.mem (.succ .zero), by simp [mapc]⟩)

theorem clone_ok (W : World) (b : Nat) (m : Int × Int → Option Int) (h : (mapc slotK numV slotG b m).ok W) :
    Calls Try.prog 28 #[.map (some b)] W fun e w' => ∃ b', e = .returned (.map (some b')) ∧ Fr [] W w' ∧ (mapc slotK numV slotG b' m).ok w' ∧ W.heap.size ≤ b' := by
  have H : St W [] [] [mapc slotK numV slotG b m] W := St.start [] (by simp; exact h)
  refine calls_enter (N := 9) Try.func28 rfl Try.ntmps28 rfl ?_
  refine WC_seq ?_
  refine WC_region ?_
  refine WL_x (x_assign (v := (.map none)) rfl) ?_
  refine WL_nil ?_
  refine thenE_normal ?_
  refine WC_seq ?_
  refine WC_seq ?_
  refine WC_region ?_
  refine WL_x (x_move (v := .map _) rfl) ?_
  refine WL_x (x_map_eql_nil Try.underlying68 rfl rfl) ?_
  refine WL_nil ?_
  refine thenE_normal ?_
  refine WC_no rfl ?_
  refine WC_skip ?_
  refine thenE_normal ?_
  refine WC_seq ?_
  refine WC_region ?_
  refine WL_x (x_move (v := .map _) rfl) ?_
  refine WL_x (x_makeIface_map Try.underlying68 rfl) ?_
  refine WL_mapsClone Try.func34 (by kernel_rfl) (by kernel_rfl) (by kernel_rfl) (by kernel_rfl) rfl H (H.rget (Has.mem .zero)) ?_
  clear H; intro b7 w H
  refine WL_x (x_assert_map Try.underlying68 rfl) ?_
  refine WL_x (x_assign (v := .map _) rfl) ?_
  refine WL_nil ?_
  refine thenE_normal ?_
  refine WC_ret ?_
  refine ends1 (v := .map _) Try.results28 rfl ?_
  exact ⟨b7, rfl, H.fr, H.ok _ (Has.mem .zero), (H.own _ (Has.mem .zero) b7 (by simp [mapc])).resolve_left (by simp)⟩

theorem copy_ok (W : World) (d b : Nat) (D : Dk) (h : (deskc d b D).ok W) :
    Calls Try.prog 15 #[.pointer (some ⟨d, 0, none⟩)] W fun e w' => ∃ d' b', e = .returned (.pointer (some ⟨d', 0, none⟩)) ∧ Fr (deskc d b D).fp W w' ∧ (deskc d b D).ok w' ∧ (deskc d' b' D).ok w' ∧ ∀ x, x ∈ (deskc d' b' D).fp → W.heap.size ≤ x := by
  have H : St W (deskc d b D).fp [blk d (D.cells b) 70, mapc slotK numV slotG b D.l] [] W := (St.one h).splitB
  refine calls_enter (N := 15) Try.func15 rfl Try.ntmps15 rfl ?_
  refine WC_seq ?_
  refine WC_region ?_
  refine WL_x (x_assign (v := (.pointer none)) rfl) ?_
  refine WL_nil ?_
  refine thenE_normal ?_
  refine WC_seq ?_
  refine WC_seq ?_
  refine WC_region ?_
  refine WL_x (x_move (v := .pointer _) rfl) ?_
  refine WL_x (x_ptr_eql_nil Try.underlying30 rfl rfl) ?_
  refine WL_nil ?_
  refine thenE_normal ?_
  refine WC_no rfl ?_
  refine WC_skip ?_
  refine thenE_normal ?_
  refine WC_seq ?_
  refine WC_region ?_
  refine WL_x (x_move (v := .pointer _) rfl) ?_
  refine WL_x (x_nilCheck rfl) ?_
  refine WL_x (x_loadA (n := 5) (vs := D.cells b) Try.underlying70 rfl (by kernel_rfl) rfl rfl (H.rangeAll .zero rfl rfl)) ?_
  refine WL_alloc (l := [(.int .i64 0), (.int .u32 0), (.int .u32 0), (.int .u32 0), (.map none)]) (by kernel_rfl) H ?_
  clear H; intro b3 w H
  refine WL_storeA rfl rfl rfl (by kernel_rfl) H .zero (Nat.le_of_ble_eq_true rfl) (splice_all _ _ rfl) ?_
  clear H; intro w H
  refine WL_nil ?_
  refine thenE_normal ?_
  refine WC_seq ?_
  refine WC_region ?_
  refine WL_x (x_move (v := .pointer _) rfl) ?_
  refine WL_x (x_nilCheck rfl) ?_
  refine WL_x (x_fieldAddr (n := 0) (o' := 4) Try.underlying70 rfl (by kernel_rfl) rfl rfl) ?_
  first | refine WL_x (x_load (v := .map _) Try.underlying68 rfl rfl (H.cellAt .zero rfl)) ?_ | refine WL_x (x_load (v := .map _) Try.underlying68 rfl rfl (H.cellAt (.succ .zero) rfl)) ?_ | refine WL_x (x_load (v := .map _) Try.underlying68 rfl rfl (H.cellAt (.succ (.succ .zero)) rfl)) ?_ | refine WL_x (x_load (v := .map _) Try.underlying68 rfl rfl (H.cellAt (.succ (.succ (.succ .zero))) rfl)) ?_ | refine WL_x (x_load (v := .map _) Try.underlying68 rfl rfl (H.cellAt (.succ (.succ (.succ (.succ .zero)))) rfl)) ?_
  refine WL_call (vs := [.map _]) Try.func28 rfl rfl rfl (clone_ok _ b D.l (H.ok _ (Has.mem (.succ (.succ .zero))))) ?_
  rintro _ w ⟨b2, rfl, hf, hok, hfr⟩
  refine ⟨_, rfl, ?_⟩
  replace H := H.new hf hok (by simp [mapc]; exact hfr)
  refine WL_x (x_fieldAddr (n := 0) (o' := 4) Try.underlying70 rfl (by kernel_rfl) rfl rfl) ?_
  refine WL_store (l' := D.cells b2) (v := .map (some b2)) Try.underlying68 rfl rfl rfl rfl (by kernel_rfl) H (.succ .zero) (Nat.le_of_ble_eq_true rfl) rfl ?_
  clear H; intro w H
  refine WL_nil ?_
  refine thenE_normal ?_
  refine WC_seq ?_
  refine WC_region ?_
  refine WL_x (x_assign (v := .pointer (some _)) rfl) ?_
  refine WL_nil ?_
  refine thenE_normal ?_
  refine WC_ret ?_
  refine ends1 (v := .pointer _) Try.results15 rfl ?_
  have H2 : St W (deskc d b D).fp [blk b3 (D.cells b2) 70, mapc slotK numV slotG b2 D.l, blk d (D.cells b) 70, mapc slotK numV slotG b D.l] [] w := H.swap
  have H3 := H2.joinB
  have H4 := (H3.drop (ro' := []) (.cons _ (List.Sublist.refl _)) (by simp)).joinB
  refine ⟨b3, b2, rfl, H.fr, H4.ok _ List.mem_cons_self, H3.ok _ List.mem_cons_self, ?_⟩
  exact H3.freshOf (fun x hx => by
      simp only [deskc, both, blk, mapc, List.cons_append, List.nil_append, List.mem_cons, List.not_mem_nil, or_false] at hx
      rcases hx with rfl | rfl
      · exact ⟨_, Has.mem .zero, by simp [blk]⟩
      · exact ⟨_, Has.mem (.succ .zero), by simp [mapc]⟩)
end Go.Proofs.Ytecdgmdkepiopaa
