import Derived.Test.YtecdgmdkepiopaaHWDkS
set_option linter.unusedSimpArgs false
set_option linter.unusedVariables false
set_option linter.unusedSectionVars false
namespace Go.Proofs.Ytecdgmdkepiopaa
open Go Go.HW Go.RowKit
attribute [local irreducible] WL WC WG wpList Code.wp

theorem nodup_len {α : Type} [DecidableEq α] {l m : List α} (hn : l.Nodup) (h : ∀ x, x ∈ l → x ∈ m) : l.length ≤ m.length := by
  induction l generalizing m with
  | nil => simp
  | cons a t ih =>
    simp only [List.nodup_cons] at hn
    have ha := h a (by simp)
    have := ih (m := m.erase a) hn.2 (fun x hx => (List.mem_erase_of_ne (by intro e; subst e; exact hn.1 hx)).2 (h x (by simp [hx])))
    rw [List.length_erase_of_mem ha] at this
    have hpos := List.length_pos_of_mem ha
    simp only [List.length_cons]
    omega
abbrev Ent := (Int × Int) × Int × Nat
def ticksOf (p : Int) (S : List Ent) : List Int := (S.filter fun x => decide (x.1.1 = p)).map fun x => x.1.2
theorem ticksOf_snoc (p : Int) (S : List Ent) (x : Ent) : ticksOf p (S ++ [x]) = ticksOf p S ++ (if x.1.1 = p then [x.1.2] else []) := by
  unfold ticksOf
  rw [List.filter_append, List.map_append]
  by_cases h : x.1.1 = p <;> simp [h]
structure Dk.inv (D : Dk) : Prop where
  held : ∀ p t v, D.l (p, t) = some v → D.tick < t ∧ t ≤ D.tick + 8
def window (D : Dk) : List Int := (List.range 8).map fun i => D.tick + 1 + (i : Nat)
theorem mem_window (D : Dk) (t : Int) : t ∈ window D ↔ D.tick < t ∧ t ≤ D.tick + 8 := by
  simp only [window, List.mem_map, List.mem_range]
  constructor
  · rintro ⟨i, hi, rfl⟩; omega
  · intro h; exact ⟨(t - D.tick - 1).toNat, by omega, by omega⟩
def heldL (D : Dk) (p : Int) : List Int := (window D).filter fun t => (D.l (p, t)).isSome
theorem window_lt (D : Dk) : (window D).Pairwise (· < ·) := by
  unfold window
  rw [List.pairwise_map]
  exact (List.pairwise_lt_range).imp (by intro a b h; omega)
theorem heldL_lt (D : Dk) (p : Int) : (heldL D p).Pairwise (· < ·) := (window_lt D).filter _
theorem heldL_len (D : Dk) (p : Int) : (heldL D p).length ≤ 8 := Nat.le_trans (List.length_filter_le _ _) (by simp [window])
theorem mem_heldL (D : Dk) (hi : D.inv) (p t : Int) : t ∈ heldL D p ↔ (D.l (p, t)).isSome = true := by
  unfold heldL
  rw [List.mem_filter, mem_window]
  constructor
  · exact fun h => h.2
  · intro h
    obtain ⟨v, hv⟩ := Option.isSome_iff_exists.1 h
    exact ⟨hi.held p t v hv, h⟩
theorem ticks_nodup {p : Int} {L : List Ent} (hn : (L.map (·.1)).Nodup) {S : List Ent} (hs : S.Nodup) (h : ∀ x, x ∈ S → x ∈ L) : (ticksOf p S).Nodup := by
  unfold ticksOf
  refine List.pairwise_map.2 ?_
  have : (S.filter fun x => decide (x.1.1 = p)).Nodup := hs.filter _
  refine List.Pairwise.imp_of_mem ?_ this
  intro a b ha hb hab e
  simp only [List.mem_filter, decide_eq_true_eq] at ha hb
  have hk : a.1 = b.1 := Prod.ext (ha.2.trans hb.2.symm) e
  have h1 := mget_mem hn (h a ha.1)
  apply hab
  clear hs this
  have hab' : ∀ {L : List Ent}, (L.map (·.1)).Nodup → a ∈ L → b ∈ L → a = b := by
    intro L hn ha hb
    induction L with
    | nil => cases ha
    | cons z L ih =>
      simp only [List.map_cons, List.nodup_cons] at hn
      rcases List.mem_cons.1 ha with e1 | ha1 <;> rcases List.mem_cons.1 hb with e2 | hb1
      · rw [e1, e2]
      · subst e1; exact absurd (List.mem_map.2 ⟨b, hb1, hk.symm⟩) hn.1
      · subst e2; exact absurd (List.mem_map.2 ⟨a, ha1, hk⟩) hn.1
      · exact ih hn.2 ha1 hb1
  exact hab' hn (h a ha.1) (h b hb.1)
theorem mem_ticks {p t : Int} {S : List Ent} : t ∈ ticksOf p S ↔ ∃ v n, ((p, t), v, n) ∈ S := by
  unfold ticksOf
  simp only [List.mem_map, List.mem_filter, decide_eq_true_eq]
  constructor
  · rintro ⟨⟨⟨q, u⟩, v, n⟩, ⟨h1, h2⟩, rfl⟩
    simp only at h2; subst h2
    exact ⟨v, n, h1⟩
  · rintro ⟨v, n, h⟩
    exact ⟨_, ⟨h, rfl⟩, rfl⟩
/-- the ticks that the range hands out are few -/
theorem ticks_few {D : Dk} (hi : D.inv) {p : Int} {L S : List Ent} (hn : (L.map (·.1)).Nodup) (hm : ∀ k, mget L k = D.l k) (hs : S.Nodup) (h : ∀ x, x ∈ S → x ∈ L) : (ticksOf p S).length ≤ 8 := by
  have := nodup_len (m := window D) (ticks_nodup (p := p) hn hs h) (fun t ht => by
    obtain ⟨v, n, hx⟩ := mem_ticks.1 ht
    have := mget_mem hn (h _ hx)
    rw [hm] at this
    exact (mem_window D t).2 (hi.held p t v this))
  simpa [window] using this
/-- sorted, they are what is held -/
theorem ticks_held {D : Dk} (hi : D.inv) {p : Int} {L S : List Ent} {ys : List Int} (hn : (L.map (·.1)).Nodup) (hm : ∀ k, mget L k = D.l k) (hs : S.Nodup) (h : ∀ x, x ∈ S → x ∈ L) (h2 : ∀ x, x ∈ L → x ∈ S)
    (hp : ys.Perm (ticksOf p S)) (hso : ys.Pairwise (· ≤ ·)) : ys = heldL D p := by
  refine sorted_unique hso ((heldL_lt D p).imp (by intro a b h; omega)) (hp.trans ?_)
  refine (List.perm_ext_iff_of_nodup (ticks_nodup hn hs h) ((heldL_lt D p).imp (by intro a b h; omega))).2 fun t => ?_
  rw [mem_heldL D hi, mem_ticks, ← hm]
  constructor
  · rintro ⟨v, n, hx⟩
    have := mget_mem hn (h _ hx)
    rw [this]; rfl
  · intro hsome
    obtain ⟨v, hv⟩ := Option.isSome_iff_exists.1 hsome
    obtain ⟨n, hx⟩ := mget_some hv
    exact ⟨v, n, h2 _ hx⟩

set_option maxHeartbeats 1000000 in
theorem held_ok (W : World) (d b : Nat) (D : Dk) (p : Int) (h : (deskc d b D).ok W) (hi : D.inv) :
    Calls Try.prog 17 #[.pointer (some ⟨d, 0, none⟩), .int .i64 p] W fun e w' => ∃ A c, e = .returned (.slice A (heldL D p).length c) ∧ Fr (deskc d b D).fp W w' ∧ (deskc d b D).ok w' ∧ (row A c 22 1 (heldL D p).length (nums .u32 (heldL D p))).ok w' ∧ ∀ x, x ∈ (row A c 22 1 (heldL D p).length (nums .u32 (heldL D p))).fp → W.heap.size ≤ x := by
  obtain ⟨L, clock, hM, hm⟩ : ∃ L clock, MapAt slotK numV slotG W b L clock ∧ ∀ k, mget L k = D.l k := h.r.2.1
  have hnk := hM.nk
  have H : St W (deskc d b D).fp [blk d (D.cells b) 70, mapf slotK numV slotG b L clock] [] W := ((St.one h).splitB).say (.succ .zero) (fun _ => mapf_ok hM) (by simp [mapc, mapf])
  refine calls_enter (N := 30) Try.func17 rfl Try.ntmps17 rfl ?_
  refine WC_seq ?_
  refine WC_region ?_
  refine WL_x (x_assign (v := (.slice none 0 0)) rfl) ?_
  refine WL_nil ?_
  refine thenE_normal ?_
  refine WC_seq ?_
  refine WC_region ?_
  refine WL_x (x_assign (v := (.slice none 0 0)) rfl) ?_
  refine WL_nil ?_
  refine thenE_normal ?_
  refine WC_seq ?_
  refine WC_seq ?_
  refine WC_region ?_
  refine WL_x (x_move (v := .pointer _) rfl) ?_
  refine WL_x (x_ptr_eql_nil Try.underlying30 rfl rfl) ?_
  refine WL_nil ?_
  refine thenE_normal ?_
  refine WC_no rfl ?_
  refine WC_skip ?_
  refine thenE_normal ?_
  refine WC_seq ?_
  refine WC_seq ?_
  refine WC_region ?_
  refine WL_x (x_move (v := .pointer _) rfl) ?_
  refine WL_x (x_nilCheck rfl) ?_
  refine WL_x (x_fieldAddr (n := 0) (o' := 4) Try.underlying70 rfl (by kernel_rfl) rfl rfl) ?_
  first | refine WL_x (x_load (v := .map _) Try.underlying68 rfl rfl (H.cellAt .zero rfl)) ?_ | refine WL_x (x_load (v := .map _) Try.underlying68 rfl rfl (H.cellAt (.succ .zero) rfl)) ?_ | refine WL_x (x_load (v := .map _) Try.underlying68 rfl rfl (H.cellAt (.succ (.succ .zero)) rfl)) ?_ | refine WL_x (x_load (v := .map _) Try.underlying68 rfl rfl (H.cellAt (.succ (.succ (.succ .zero))) rfl)) ?_ | refine WL_x (x_load (v := .map _) Try.underlying68 rfl rfl (H.cellAt (.succ (.succ (.succ (.succ .zero)))) rfl)) ?_
  refine WL_range Try.underlying68 rfl H (H.get (Has.mem (.succ .zero))) ?_
  clear H; intro b13 w H
  refine WL_nil ?_
  refine thenE_normal ?_
  refine WC_block ?_
  refine WC_while (fun (s : List Ent × Option Addr × Nat) f w' => (∀ x, x ∈ s.1 → x ∈ L) ∧ s.1.Nodup ∧ f 13 = .pointer (some ⟨b13, 0, none⟩) ∧ f 5 = .slice s.2.1 (ticksOf p s.1).length s.2.2 ∧ f 1 = .int .i64 p ∧ St W (deskc d b D).fp [row s.2.1 s.2.2 22 1 (ticksOf p s.1).length (nums .u32 (ticksOf p s.1)), iterc b13 b clock s.1, blk d (D.cells b) 70, mapf slotK numV slotG b L clock] [] w') (fun s => L.length - s.1.length) (s0 := ([], none, 0)) ?_ ?_
  · exact ⟨by simp, by simp, rfl, rfl, rfl, H.nilRow 22 1⟩
  · clear H
    rintro ⟨S, A, c⟩ f w ⟨hsub, hnd, h13, h5, h1, H⟩
    simp only at hsub hnd h13 h5 h1 H
    rw [← upd_self h13, ← upd_self h5, ← upd_self h1]
    refine WC_seq ?_
    refine WC_region ?_
    refine WL_next rfl H (H.get (Has.mem (.succ (.succ (.succ .zero))))) (hsub) (fun _ => .succ .zero) ?_
    clear H; intro o14 w hdone hmore H
    refine WL_x (x_extract (vs := nextL slotK numV o14) (v := .bool o14.isSome) rfl (by cases o14 <;> rfl)) ?_
    refine WL_nil ?_
    refine thenE_normal ?_
    refine WC_seq ?_
    refine WC_if rfl (fun h15 => ?_) (fun h15 => ?_)
    · obtain ⟨x, rfl⟩ := Option.isSome_iff_exists.1 h15
      replace hmore := hmore x rfl
      simp only [Option.toList_some] at H
      have hsub' : ∀ y, y ∈ S ++ [x] → y ∈ L := by intro y hy; simp at hy; rcases hy with hy | rfl; exact hsub y hy; exact hmore.1
      have hnd' : (S ++ [x]).Nodup := List.nodup_append.2 ⟨hnd, by simp, by intro a ha b hb; simp at hb; subst hb; intro e; subst e; exact hmore.2 ha⟩
      refine WC_skip ?_
      refine thenE_normal ?_
      refine WC_block ?_
      refine WC_seq ?_
      refine WC_region ?_
      refine WL_x (x_entry rfl (H.get (Has.mem (.succ .zero))) (H.get (Has.mem (.succ (.succ (.succ .zero))))) (hmore.1)) ?_
      refine WL_x (x_extract (v := .agg (List.toArray _)) rfl rfl) ?_
      refine WL_alloc (l := [(.int .i64 0), (.int .u32 0)]) (by kernel_rfl) H ?_
      clear H; intro b6 w H
      first | refine WL_storeA rfl rfl rfl (by kernel_rfl) H .zero (Nat.le_of_ble_eq_true rfl) (splice_all _ _ rfl) ?_ | refine WL_storeA rfl rfl rfl (by kernel_rfl) H (.succ .zero) (Nat.le_of_ble_eq_true rfl) (splice_all _ _ rfl) ?_ | refine WL_storeA rfl rfl rfl (by kernel_rfl) H (.succ (.succ .zero)) (Nat.le_of_ble_eq_true rfl) (splice_all _ _ rfl) ?_ | refine WL_storeA rfl rfl rfl (by kernel_rfl) H (.succ (.succ (.succ .zero))) (Nat.le_of_ble_eq_true rfl) (splice_all _ _ rfl) ?_ | refine WL_storeA rfl rfl rfl (by kernel_rfl) H (.succ (.succ (.succ (.succ .zero)))) (Nat.le_of_ble_eq_true rfl) (splice_all _ _ rfl) ?_
      clear H; intro w H
      refine WL_nil ?_
      refine thenE_normal ?_
      refine WC_seq ?_
      refine WC_region ?_
      refine WL_x (x_fieldAddr (n := 0) (o' := 0) Try.underlying73 rfl (by kernel_rfl) rfl rfl) ?_
      first | refine WL_x (x_load (v := .int .i64 _) Try.underlying3 rfl rfl (H.cellAt .zero rfl)) ?_ | refine WL_x (x_load (v := .int .i64 _) Try.underlying3 rfl rfl (H.cellAt (.succ .zero) rfl)) ?_ | refine WL_x (x_load (v := .int .i64 _) Try.underlying3 rfl rfl (H.cellAt (.succ (.succ .zero)) rfl)) ?_ | refine WL_x (x_load (v := .int .i64 _) Try.underlying3 rfl rfl (H.cellAt (.succ (.succ (.succ .zero))) rfl)) ?_ | refine WL_x (x_load (v := .int .i64 _) Try.underlying3 rfl rfl (H.cellAt (.succ (.succ (.succ (.succ .zero)))) rfl)) ?_ | refine WL_x (x_load Try.underlying3 rfl rfl (H.rnum .zero (by omega) (by omega))) ?_ | refine WL_x (x_load Try.underlying3 rfl rfl (H.rnum (.succ .zero) (by omega) (by omega))) ?_ | refine WL_x (x_load Try.underlying3 rfl rfl (H.rnum (.succ (.succ .zero)) (by omega) (by omega))) ?_ | refine WL_x (x_load Try.underlying3 rfl rfl (H.onum .zero (by omega) (by omega))) ?_ | refine WL_x (x_load Try.underlying3 rfl rfl (H.onum (.succ .zero) (by omega) (by omega))) ?_ | refine WL_x (x_load Try.underlying3 rfl rfl (H.onum (.succ (.succ .zero)) (by omega) (by omega))) ?_
      refine WL_x (x_move (v := .int .i64 _) rfl) ?_
      refine WL_x (x_binop rfl rfl (r_eql _ _ _ _)) ?_
      refine WL_nil ?_
      refine thenE_normal ?_
      refine WC_ifd rfl (fun h21 => ?_) (fun h21 => ?_)
      · have hfew := ticks_few hi hnk hm hnd hsub (p := p)
        refine WC_region ?_
        refine WL_x (x_move (v := .slice _ _ _) rfl) ?_
        refine WL_x (x_fieldAddr (n := 0) (o' := 1) Try.underlying73 rfl (by kernel_rfl) rfl rfl) ?_
        first | refine WL_x (x_load (v := .int .u32 _) Try.underlying22 rfl rfl (H.cellAt .zero rfl)) ?_ | refine WL_x (x_load (v := .int .u32 _) Try.underlying22 rfl rfl (H.cellAt (.succ .zero) rfl)) ?_ | refine WL_x (x_load (v := .int .u32 _) Try.underlying22 rfl rfl (H.cellAt (.succ (.succ .zero)) rfl)) ?_ | refine WL_x (x_load (v := .int .u32 _) Try.underlying22 rfl rfl (H.cellAt (.succ (.succ (.succ .zero))) rfl)) ?_ | refine WL_x (x_load (v := .int .u32 _) Try.underlying22 rfl rfl (H.cellAt (.succ (.succ (.succ (.succ .zero)))) rfl)) ?_ | refine WL_x (x_load Try.underlying22 rfl rfl (H.rnum .zero (by omega) (by omega))) ?_ | refine WL_x (x_load Try.underlying22 rfl rfl (H.rnum (.succ .zero) (by omega) (by omega))) ?_ | refine WL_x (x_load Try.underlying22 rfl rfl (H.rnum (.succ (.succ .zero)) (by omega) (by omega))) ?_ | refine WL_x (x_load Try.underlying22 rfl rfl (H.onum .zero (by omega) (by omega))) ?_ | refine WL_x (x_load Try.underlying22 rfl rfl (H.onum (.succ .zero) (by omega) (by omega))) ?_ | refine WL_x (x_load Try.underlying22 rfl rfl (H.onum (.succ (.succ .zero)) (by omega) (by omega))) ?_
        refine WL_buildSliceS (s := 1) (z0 := [(.int .u32 0)]) (zero := [(.int .u32 0)]) (cells := [_]) (vs := [(0, .int .u32 _)]) Try.underlying33 (by kernel_rfl) (by kernel_rfl) rfl rfl rfl rfl H ?_
        clear H; intro b25 w H
        refine WL_append (i := Try.t22) (bytes := 4) (size := 1) Try.underlying33 (by kernel_rfl) rfl rfl rfl (by kernel_rfl) rfl rfl rfl H (fun _ _ => .succ (.succ .zero)) (rfl) (blk_cells (H.get (Has.mem .zero))) (by simp [Value.oneCell']) (by unfold maxLen; omega) (by omega) ?_
        clear H; intro A26 c26 w H
        replace H := H.pop.pop
        refine WL_x (x_assign (v := .slice _ _ _) rfl) ?_
        refine WL_nil ?_
        refine inBlockE_normal ?_
        refine thenE_normal ?_
        have hlen := nodup_len hnd' hsub'
        rw [List.length_append, List.length_singleton] at hlen
        first
          | (have e1 : ticksOf p (S ++ [x]) = ticksOf p S ++ [x.1.2] := by rw [ticksOf_snoc, if_pos h21]
             have e2 : (ticksOf p (S ++ [x])).length = (ticksOf p S).length + 1 := by rw [e1]; simp
             have e3 : nums .u32 (ticksOf p S) ++ [.int .u32 x.1.2] = nums .u32 (ticksOf p (S ++ [x])) := by rw [e1]; exact append_one
             rw [e3, ← e2] at H
             exact ⟨(S ++ [x], A26, c26), ⟨hsub', hnd', rfl, by rw [e2]; rfl, rfl, H⟩, by simp only [List.length_append, List.length_singleton]; omega⟩)
          | (have e1 : ticksOf p (S ++ [x]) = ticksOf p S := by rw [ticksOf_snoc, if_neg h21, List.append_nil]
             exact ⟨(S ++ [x], A, c), ⟨hsub', hnd', rfl, by rw [e1]; rfl, rfl, by simp only [e1]; exact H.pop⟩, by simp only [List.length_append, List.length_singleton]; omega⟩)
      · refine WC_skip ?_
        refine inBlockE_normal ?_
        refine thenE_normal ?_
        have hlen := nodup_len hnd' hsub'
        rw [List.length_append, List.length_singleton] at hlen
        first
          | (have e1 : ticksOf p (S ++ [x]) = ticksOf p S ++ [x.1.2] := by rw [ticksOf_snoc, if_pos h21]
             have e2 : (ticksOf p (S ++ [x])).length = (ticksOf p S).length + 1 := by rw [e1]; simp
             have e3 : nums .u32 (ticksOf p S) ++ [.int .u32 x.1.2] = nums .u32 (ticksOf p (S ++ [x])) := by rw [e1]; exact append_one
             rw [e3, ← e2] at H
             exact ⟨(S ++ [x], A26, c26), ⟨hsub', hnd', rfl, by rw [e2]; rfl, rfl, H⟩, by simp only [List.length_append, List.length_singleton]; omega⟩)
          | (have e1 : ticksOf p (S ++ [x]) = ticksOf p S := by rw [ticksOf_snoc, if_neg h21, List.append_nil]
             exact ⟨(S ++ [x], A, c), ⟨hsub', hnd', rfl, by rw [e1]; rfl, rfl, by simp only [e1]; exact H.pop⟩, by simp only [List.length_append, List.length_singleton]; omega⟩)
    · obtain rfl : o14 = none := by simpa using h15
      simp only [Option.toList_none, List.append_nil] at H
      replace hdone := hdone rfl
      have hfew := ticks_few hi hnk hm hnd hsub (p := p)
      refine WC_exit ?_
      refine thenE_exit ?_
      refine thenE_exit ?_
      refine inBlockE_exit ?_
      refine thenE_normal ?_
      refine WC_seq ?_
      refine WC_region ?_
      refine WL_x (x_move (v := .slice _ _ _) rfl) ?_
      refine WL_call (vs := [.slice _ _ _]) Try.func29 rfl rfl rfl (sortSmall_u32 _ (ticksOf p S) A c (H.ok _ (Has.mem .zero)) (by omega)) ?_
      rintro _ w ⟨ys, rfl, hf, hW, hso, hok⟩
      refine ⟨_, rfl, ?_⟩
      replace H := H.turn .zero hf (fun _ h => .inl h) hok (fun _ h => .inl h)
      have hys : ys = heldL D p := ticks_held hi hnk hm hnd hsub hdone hW.perm (sortedOn_pairwise (by rw [hW.len]; exact hso))
      have hyl := hW.len
      subst hys
      rw [← hyl] at H ⊢
      refine WL_nil ?_
      refine thenE_normal ?_
      refine WC_seq ?_
      refine WC_region ?_
      refine WL_x (x_move (v := .slice _ _ _) rfl) ?_
      refine WL_x (x_assign (v := .slice _ _ _) rfl) ?_
      refine WL_nil ?_
      refine thenE_normal ?_
      refine WC_ret ?_
      refine ends1 (v := .slice _ _ _) Try.results17 rfl ?_
      have hd : St W (deskc d b D).fp [row A c 22 1 (heldL D p).length (nums .u32 (heldL D p)), blk d (D.cells b) 70, mapc slotK numV slotG b D.l] [] w :=
        (H.say (c' := mapc slotK numV slotG b D.l) (.succ (.succ (.succ .zero))) (fun h => mapc_ok h.r hm) (by simp [mapc, mapf])).drop (ro' := []) (.cons_cons _ (.cons _ (List.Sublist.refl _))) (by simp)
      refine ⟨A, c, rfl, H.fr, hd.pop.joinB.ok _ List.mem_cons_self, hd.ok _ List.mem_cons_self, ?_⟩
      exact hd.freshOf (fun x hx => by
          simp only [deskc, both, blk, mapc, List.cons_append, List.nil_append, List.mem_cons, List.not_mem_nil, or_false] at hx
          rcases hx with rfl | rfl
          · exact ⟨_, Has.mem .zero, by simp [blk]⟩
          · exact ⟨_, Has.mem (.succ .zero), by simp [mapc]⟩)

def dropD (D : Dk) (p : Int) : Dk := { D with l := fun k => if k.1 = p then none else D.l k }
def dropM (D : Dk) (p : Int) (ts : List Int) : Int × Int → Option Int := fun k => if k.1 = p ∧ k.2 ∈ ts then none else D.l k
theorem dropM_nil (D : Dk) (p : Int) : dropM D p [] = D.l := by funext k; simp [dropM]
theorem dropM_snoc (D : Dk) (p : Int) (ts : List Int) (t : Int) : mdel (dropM D p ts) (p, t) = dropM D p (ts ++ [t]) := by
  funext ⟨q, u⟩
  simp only [mdel, dropM, Prod.mk.injEq, List.mem_append, List.mem_singleton]
  by_cases h1 : q = p <;> by_cases h2 : u = t <;> simp [h1, h2]
theorem dropM_all (D : Dk) (hi : D.inv) (p : Int) : dropM D p (heldL D p) = (dropD D p).l := by
  funext ⟨q, u⟩
  simp only [dropM, dropD]
  by_cases h : q = p
  · subst h
    simp only [true_and, if_true]
    by_cases hu : u ∈ heldL D q
    · rw [if_pos hu]
    · rw [if_neg hu]
      have := fun hs => hu ((mem_heldL D hi q u).2 hs)
      cases hl : D.l (q, u) with
      | none => rfl
      | some v => exact absurd (by rw [hl]; rfl) this
  · rw [if_neg (fun e => h e.1), if_neg h]
theorem heldL_in (D : Dk) (hD : D.ok) (hi : D.inv) (hk : ∀ k v, D.l k = some v → slotG k) (p t : Int) (h : t ∈ heldL D p) : 0 ≤ t ∧ t ≤ 4294967295 := by
  obtain ⟨v, hv⟩ := Option.isSome_iff_exists.1 ((mem_heldL D hi p t).1 h)
  exact (hk _ _ hv).2
theorem deskc_keys {w : World} {d b : Nat} {D : Dk} (h : (deskc d b D).ok w) : ∀ k v, D.l k = some v → slotG k := by
  obtain ⟨L, clock, hM, hm⟩ : ∃ L clock, MapAt slotK numV slotG w b L clock ∧ ∀ k, mget L k = D.l k := h.r.2.1
  intro k v hv
  rw [← hm] at hv
  obtain ⟨n, hx⟩ := mget_some hv
  exact hM.good _ hx

set_option maxHeartbeats 1000000 in
theorem drop_ok (W : World) (d b : Nat) (D : Dk) (p : Int) (h : (deskc d b D).ok W) (hD : D.ok) (hi : D.inv) (hp : -9223372036854775808 ≤ p ∧ p ≤ 9223372036854775807) :
    Calls Try.prog 18 #[.pointer (some ⟨d, 0, none⟩), .int .i64 p] W fun e w' => e = .returned (.int .i64 (heldL D p).length) ∧ Fr (deskc d b D).fp W w' ∧ (deskc d b (dropD D p)).ok w' := by
  have hkeys := deskc_keys h
  have hl8 := heldL_len D p
  have H : St W (deskc d b D).fp [deskc d b D] [] W := St.one h
  refine calls_enter (N := 27) Try.func18 rfl Try.ntmps18 rfl ?_
  refine WC_seq ?_
  refine WC_region ?_
  refine WL_x (x_assign (v := (.int .i64 0)) rfl) ?_
  refine WL_nil ?_
  refine thenE_normal ?_
  refine WC_seq ?_
  refine WC_region ?_
  refine WL_x (x_move (v := .pointer _) rfl) ?_
  refine WL_x (x_move (v := .int .i64 _) rfl) ?_
  refine WL_call (vs := [.pointer _, .int .i64 _]) Try.func17 rfl rfl rfl (held_ok _ d b D p (H.ok _ List.mem_cons_self) hi) ?_
  rintro _ w ⟨A, c, rfl, hf, hok, hokr, hfr⟩
  refine ⟨_, rfl, ?_⟩
  replace H := H.turnNew .zero hf (fun _ h => .inl h) hok (fun _ h => h) hokr hfr
  replace H := (H.swap.splitB).rot3
  refine WL_x (x_assign (v := .slice _ _ _) rfl) ?_
  refine WL_nil ?_
  refine thenE_normal ?_
  refine WC_seq ?_
  refine WC_seq ?_
  refine WC_region ?_
  refine WL_x (x_move (v := .slice _ _ _) rfl) ?_
  refine WL_x (x_len Try.underlying33 rfl) ?_
  refine WL_x (x_move (v := (.int .i64 0)) rfl) ?_
  refine WL_nil ?_
  refine thenE_normal ?_
  refine WC_block ?_
  refine WC_while (fun (k : Nat) f w' => k ≤ (heldL D p).length ∧ f 13 = .int .i64 k ∧ f 12 = .int .i64 (heldL D p).length ∧ f 11 = .slice A (heldL D p).length c ∧ f 5 = .slice A (heldL D p).length c ∧ f 0 = .pointer (some ⟨d, 0, none⟩) ∧ f 1 = .int .i64 p ∧ St W (deskc d b D).fp [row A c 22 1 (heldL D p).length (nums .u32 (heldL D p)), blk d (D.cells b) 70, mapc slotK numV slotG b (dropM D p ((heldL D p).take k))] [] w') (fun k => (heldL D p).length - k) (s0 := 0) ?_ ?_
  · refine ⟨Nat.zero_le _, rfl, rfl, rfl, rfl, rfl, rfl, ?_⟩
    rw [List.take_zero, dropM_nil]
    exact H
  · clear H
    rintro k f w ⟨hk, h13, h12, h11, h5, h0, h1, H⟩
    rw [← upd_self h13, ← upd_self h12, ← upd_self h11, ← upd_self h5, ← upd_self h0, ← upd_self h1]
    refine WC_seq ?_
    refine WC_region ?_
    refine WL_x (x_binop rfl rfl (r_lss _ _ _ _)) ?_
    refine WL_nil ?_
    refine thenE_normal ?_
    refine WC_seq ?_
    refine WC_ifd rfl (fun h14 => ?_) (fun h14 => ?_)
    · have hk14 : k < (heldL D p).length := by omega
      have htin := heldL_in D hD hi hkeys p (nth (heldL D p) (k : Int)) (by rw [nth_lt _ _ hk14]; exact List.getElem_mem _)
      refine WC_skip ?_
      refine thenE_normal ?_
      refine WC_seq ?_
      refine WC_block ?_
      refine WC_seq ?_
      refine WC_region ?_
      refine WL_x (x_indexAddr (s := 1) Try.underlying33 (by kernel_rfl) rfl rfl (by omega) (by omega) (by first | rfl | assumption | exact H.rsomen .zero (by omega) | exact H.rsomen (.succ .zero) (by omega) | exact H.rsomen (.succ (.succ .zero)) (by omega) | exact H.osomen .zero (by omega) | exact H.osomen (.succ .zero) (by omega) | exact H.osomen (.succ (.succ .zero)) (by omega)) rfl) ?_
      first | refine WL_x (x_load (v := .int .u32 _) Try.underlying22 rfl rfl (H.cellAt .zero rfl)) ?_ | refine WL_x (x_load (v := .int .u32 _) Try.underlying22 rfl rfl (H.cellAt (.succ .zero) rfl)) ?_ | refine WL_x (x_load (v := .int .u32 _) Try.underlying22 rfl rfl (H.cellAt (.succ (.succ .zero)) rfl)) ?_ | refine WL_x (x_load (v := .int .u32 _) Try.underlying22 rfl rfl (H.cellAt (.succ (.succ (.succ .zero))) rfl)) ?_ | refine WL_x (x_load (v := .int .u32 _) Try.underlying22 rfl rfl (H.cellAt (.succ (.succ (.succ (.succ .zero)))) rfl)) ?_ | refine WL_x (x_load Try.underlying22 rfl rfl (H.rnum .zero (by omega) (by omega))) ?_ | refine WL_x (x_load Try.underlying22 rfl rfl (H.rnum (.succ .zero) (by omega) (by omega))) ?_ | refine WL_x (x_load Try.underlying22 rfl rfl (H.rnum (.succ (.succ .zero)) (by omega) (by omega))) ?_ | refine WL_x (x_load Try.underlying22 rfl rfl (H.onum .zero (by omega) (by omega))) ?_ | refine WL_x (x_load Try.underlying22 rfl rfl (H.onum (.succ .zero) (by omega) (by omega))) ?_ | refine WL_x (x_load Try.underlying22 rfl rfl (H.onum (.succ (.succ .zero)) (by omega) (by omega))) ?_
      refine WL_x (x_assign (v := .int .u32 _) rfl) ?_
      refine WL_nil ?_
      refine thenE_normal ?_
      refine WC_region ?_
      refine WL_x (x_move (v := .pointer _) rfl) ?_
      refine WL_x (x_nilCheck rfl) ?_
      refine WL_x (x_fieldAddr (n := 0) (o' := 4) Try.underlying70 rfl (by kernel_rfl) rfl rfl) ?_
      first | refine WL_x (x_load (v := .map _) Try.underlying68 rfl rfl (H.cellAt .zero rfl)) ?_ | refine WL_x (x_load (v := .map _) Try.underlying68 rfl rfl (H.cellAt (.succ .zero) rfl)) ?_ | refine WL_x (x_load (v := .map _) Try.underlying68 rfl rfl (H.cellAt (.succ (.succ .zero)) rfl)) ?_ | refine WL_x (x_load (v := .map _) Try.underlying68 rfl rfl (H.cellAt (.succ (.succ (.succ .zero))) rfl)) ?_ | refine WL_x (x_load (v := .map _) Try.underlying68 rfl rfl (H.cellAt (.succ (.succ (.succ (.succ .zero)))) rfl)) ?_
      refine WL_x (x_move (v := .int .i64 _) rfl) ?_
      refine WL_x (x_move (v := .int .u32 _) rfl) ?_
      refine WL_x (x_buildS (pl := [(0, 1), (1, 1)]) (zero := [(.int .i64 0), (.int .u32 0)]) (cells := [_, _]) (vs := [(0, .int .i64 _), (1, .int .u32 _)]) Try.underlying73 (by kernel_rfl) (by kernel_rfl) (by kernel_rfl) rfl rfl) ?_
      first | refine WL_delete (eK := slotK) (eV := numV) (g := slotG) (a := (p, nth (heldL D p) (k : Int))) slotT Try.underlying68 rfl rfl (slotG_mk hp.1 hp.2 htin.1 htin.2) H .zero ?_ | refine WL_delete (eK := slotK) (eV := numV) (g := slotG) (a := (p, nth (heldL D p) (k : Int))) slotT Try.underlying68 rfl rfl (slotG_mk hp.1 hp.2 htin.1 htin.2) H (.succ .zero) ?_ | refine WL_delete (eK := slotK) (eV := numV) (g := slotG) (a := (p, nth (heldL D p) (k : Int))) slotT Try.underlying68 rfl rfl (slotG_mk hp.1 hp.2 htin.1 htin.2) H (.succ (.succ .zero)) ?_ | refine WL_delete (eK := slotK) (eV := numV) (g := slotG) (a := (p, nth (heldL D p) (k : Int))) slotT Try.underlying68 rfl rfl (slotG_mk hp.1 hp.2 htin.1 htin.2) H (.succ (.succ (.succ .zero))) ?_ | refine WL_delete (eK := slotK) (eV := numV) (g := slotG) (a := (p, nth (heldL D p) (k : Int))) slotT Try.underlying68 rfl rfl (slotG_mk hp.1 hp.2 htin.1 htin.2) H (.succ (.succ (.succ (.succ .zero)))) ?_
      clear H; intro w H
      refine WL_nil ?_
      refine inBlockE_normal ?_
      refine thenE_normal ?_
      refine WC_region ?_
      refine WL_x (x_binop rfl rfl (r_add_in (i64_in (by omega) (by omega)))) ?_
      refine WL_x (x_move (v := .int .i64 _) rfl) ?_
      refine WL_nil ?_
      refine thenE_normal ?_
      rw [dropM_snoc, nth_lt _ _ hk14, ← List.take_succ_eq_append_getElem hk14] at H
      exact ⟨k + 1, ⟨by omega, by simp [upd], rfl, rfl, rfl, rfl, rfl, H⟩, by omega⟩
    · obtain rfl : k = (heldL D p).length := by omega
      refine WC_exit ?_
      refine thenE_exit ?_
      refine thenE_exit ?_
      refine inBlockE_exit ?_
      refine thenE_normal ?_
      refine WC_seq ?_
      refine WC_region ?_
      refine WL_x (x_move (v := .slice _ _ _) rfl) ?_
      refine WL_x (x_len Try.underlying33 rfl) ?_
      refine WL_x (x_assign (v := .int .i64 _) rfl) ?_
      refine WL_nil ?_
      refine thenE_normal ?_
      refine WC_ret ?_
      refine ends1 (v := .int .i64 _) Try.results18 rfl ?_
      rw [List.take_length, dropM_all D hi] at H
      exact ⟨rfl, H.fr, H.pop.joinB.ok _ List.mem_cons_self⟩
end Go.Proofs.Ytecdgmdkepiopaa
