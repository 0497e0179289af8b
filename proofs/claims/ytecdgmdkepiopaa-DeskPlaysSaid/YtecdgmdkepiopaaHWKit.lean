import Derived.Test.YtecdgmdkepiopaaHWCall
set_option linter.unusedSimpArgs false
set_option linter.unusedVariables false
namespace Go.HW
open Go Go.RowKit

/-! ### Which piece -/
inductive Has (c : Ck) : List Ck → Prop where
  | zero {t} : Has c (c :: t)
  | succ {x t} : Has c t → Has c (x :: t)
theorem Has.mem {c : Ck} {cs : List Ck} (h : Has c cs) : c ∈ cs := by
  induction h with
  | zero => simp
  | succ _ ih => simp [ih]
section
variable {w0 w : World} {M : List Nat} {cs ro : List Ck}
theorem St.cellAt (H : St w0 M cs ro w) {b o : Nat} {l : List Value} {T : TypeId} {v : Value} (hm : Has (blk b l T) cs) (hv : l[o]? = some v) : w.cell? ⟨b, o, none⟩ = some v := by
  have hB : Blk w b l T := H.get hm.mem
  rw [hB.cell]; exact hv
theorem St.rangeAll (H : St w0 M cs ro w) {b o : Nat} {l vs : List Value} {T : TypeId} (hm : Has (blk b l T) cs) (ho : o = 0) (hv : l = vs) : w.rangeAt b o vs := by
  have hB : Blk w b l T := H.get hm.mem
  subst ho; subst hv
  intro j v hj
  rw [hB.cell, Nat.zero_add]; exact hj
end
/-! ### values of parts -/
def fillL (place : Nat → Option (Nat × Nat)) : List Value → List (Nat × Value) → Option (List Value)
  | cells, [] => some cells
  | cells, (i, v) :: rest =>
    match place i with
    | none => none
    | some (off, size) => bif Nat.beq v.cells.size size && Nat.ble (off + v.cells.size) cells.length then fillL place (splice cells off v.cells.toList) rest else none
theorem foldset (vs : List Value) : ∀ (k o : Nat) (l : List Value), o + k + vs.length ≤ l.length →
    (vs.zipIdx k).foldl (fun (cs : Array Value) (x : Value × Nat) => cs.setIfInBounds (o + x.2) x.1) l.toArray = (splice l (o + k) vs).toArray := by
  induction vs with
  | nil => intro k o l h; simp [splice]
  | cons v r ih =>
    intro k o l h
    simp only [List.length_cons] at h
    simp only [List.zipIdx_cons, List.foldl_cons]
    have e1 : l.toArray.setIfInBounds (o + k) v = (l.set (o + k) v).toArray := by simp
    rw [e1, ih (k + 1) o _ (by simp; omega)]
    congr 1
    simp only [splice, List.length_cons]
    rw [List.drop_set_of_lt (by omega), List.set_eq_take_append_cons_drop, if_pos (by omega), List.take_append]
    simp [List.take_take, show min (o + (k + 1)) (o + k) = o + k by omega, show min (o + k) l.length = o + k by omega, show o + (k + 1) - (o + k) = 1 by omega, show o + (k + 1) + r.length = o + k + (r.length + 1) by omega]
theorem fill_eq (place : Nat → Option (Nat × Nat)) : ∀ (parts : List (Nat × Value)) (cells l : List Value), fillL place cells parts = some l → Instr.fill place cells.toArray parts = some l.toArray
  | [], cells, l, h => by simp [fillL] at h; subst h; rfl
  | (i, v) :: rest, cells, l, h => by
    simp only [fillL] at h
    simp only [Instr.fill]
    cases hp : place i with
    | none => simp [hp] at h
    | some p =>
      obtain ⟨off, size⟩ := p
      simp only [hp] at h ⊢
      cases hb : (Nat.beq v.cells.size size && Nat.ble (off + v.cells.size) cells.length) with
      | false => simp [hb] at h
      | true =>
        simp only [hb, cond_true] at h
        simp only [Bool.and_eq_true, Nat.beq_eq] at hb
        have h1 : v.cells.size = size := hb.1
        have h2 : off + v.cells.size ≤ cells.length := Nat.le_of_ble_eq_true hb.2
        rw [if_neg (by simp [h1]; omega)]
        have e := foldset v.cells.toList 0 off cells (by simpa using h2)
        rw [← Array.foldl_toList, Array.toList_zipIdx]
        rw [e, Nat.add_zero]
        exact fill_eq place rest _ l h
section
variable {P : Program} {N : Nat} {ops : Array Oper} {Q : Post} {rest : List Oper} {f : Env} {w : World}
variable {ty : TypeId} {pos : String} {aft : Array Edge} {g : Option (Nat × Bool)}
variable {w0 : World} {M : List Nat} {cs ro cs' : List Ck}
/-- where each field lies, and its size -/
def places (P : Program) (fs : Array Field) : List (Nat × Nat) := fs.toList.map fun f => (f.offset, ((P.info? f.type).map (·.size)).getD 0)
theorem mapM_places {w : World} : ∀ (fs : List Field) (acc : Array (Nat × Nat)), (∀ x, x ∈ fs → (P.info? x.type).isSome) →
    (List.foldlM (m := Sem) (fun (bs : Array (Nat × Nat)) (a : Field) => do pure (bs.push (← (do pure (a.offset, ← sizeOf a.type) : Sem (Nat × Nat))))) acc fs).run P w = .ok (acc ++ (fs.map fun f => (f.offset, ((P.info? f.type).map (·.size)).getD 0)).toArray) w
  | [], acc, _ => by simp
  | x :: fs, acc, h => by
    have hx := h x (by simp)
    obtain ⟨i, hi⟩ := Option.isSome_iff_exists.1 hx
    rw [List.foldlM_cons, Sem.run_bind]
    have e : (do pure (acc.push (← (do pure (x.offset, ← sizeOf x.type) : Sem (Nat × Nat)))) : Sem (Array (Nat × Nat))).run P w = .ok (acc.push (x.offset, i.size)) w := by
      simp [sizeOf, typeInfo, hi]
    rw [e, Result.andThen_ok, mapM_places fs _ (fun y hy => h y (by simp [hy]))]
    simp [hi]
theorem run_mapM_places {w : World} (fs : Array Field) (h : fs.all (fun x => (P.info? x.type).isSome) = true) :
    (fs.mapM (m := Sem) fun f => do pure (f.offset, ← sizeOf f.type)).run P w = .ok (places P fs).toArray w := by
  rw [Array.mapM_eq_foldlM, ← Array.foldlM_toList]
  have := mapM_places (P := P) (w := w) fs.toList #[] (fun x hx => by
    have := Array.all_eq_true_iff_forall_mem.1 h
    exact this x (by simpa using hx))
  simpa [places] using this
theorem build_run {T : TypeId} {fs : Array Field} {pl : List (Nat × Nat)} {zero cells : List Value} {parts : List (Nat × Value)} (hT : P.underlying T = some (.struct fs)) (hpl : places P fs = pl) (hall : fs.all (fun x => (P.info? x.type).isSome) = true)
    (hz : (P.info? T).map (·.zero.map (·.cells)) = some (some zero.toArray)) (hf : fillL (fun i => pl[i]?) zero parts = some cells) (w : World) : (Instr.build T parts.toArray).run P w = .ok (.agg cells.toArray) w := by
  cases hi : P.info? T with
  | none => simp [hi] at hz
  | some i =>
    simp only [hi, Option.map_some, Option.some.injEq] at hz
    cases hz0 : i.zero with
    | none => simp [hz0] at hz
    | some z =>
      simp only [hz0, Option.map_some, Option.some.injEq] at hz
      have hzr : (zeroValue T).run P w = .ok z w := by simp [zeroValue, typeInfo, hi, hz0]
      have hff := fill_eq _ _ _ _ hf
      unfold Instr.build
      rw [Sem.run_bind, hzr, Result.andThen_ok, Sem.run_bind, run_underlying hT, Result.andThen_ok]
      simp only
      rw [Sem.run_bind, run_mapM_places fs hall, Result.andThen_ok, hz, hpl]
      have e : (fun x : Nat => pl.toArray[x]?) = fun x : Nat => pl[x]? := by funext x; simp
      simp only [e, List.toList_toArray, hff]
      rfl
theorem x_buildS {d : Tmp} {T : TypeId} {parts : List (Nat × Operand)} {fs : Array Field} {pl : List (Nat × Nat)} {zero cells : List Value} {vs : List (Nat × Value)} (hT : P.underlying T = some (.struct fs)) (hpl : places P fs = pl) (hall : fs.all (fun x => (P.info? x.type).isSome) = true)
    (hz : (P.info? T).map (·.zero.map (·.cells)) = some (some zero.toArray)) (hx : parts.map (fun x => (x.1, evo N f x.2)) = vs) (hf : fillL (fun i => pl[i]?) zero vs = some cells) :
    (execOp (evo N f) ⟨some d, .build T parts.toArray, ty, pos, aft, g⟩).run P w = .ok (.value ((.agg cells.toArray))) w :=
  x_build (v := .agg cells.toArray) (fun w => by
    subst hx
    have := build_run (P := P) hT hpl hall hz hf w
    simpa using this)
theorem buildSlice_run {T E : TypeId} {n s : Nat} {parts : List (Nat × Value)} {zero z0 cells : List Value} (hT : P.underlying T = some (.slice E)) (hs : (P.info? E).map (·.size) = some s) (hz : (P.info? E).map (·.zero.map (·.cells)) = some (some z0.toArray)) (hbig : Nat.ble (n * s) 16777216 = true)
    (hzero : (List.range (n * s)).map (fun i => z0.toArray[i % z0.length]!) = zero) (hf : fillL (fun i => some (i * s, s)) zero parts = some cells) (w : World) :
    (Instr.buildSlice T n parts.toArray).run P w = .ok (.slice (some ⟨w.heap.size, 0, none⟩) n n) (w.alloc (.cells cells.toArray E)) := by
  have hbig' := Nat.le_of_ble_eq_true hbig
  cases hi : P.info? E with
  | none => simp [hi] at hz
  | some i =>
    simp only [hi, Option.map_some, Option.some.injEq] at hz hs
    cases hz0 : i.zero with
    | none => simp [hz0] at hz
    | some z =>
      simp only [hz0, Option.map_some, Option.some.injEq] at hz
      have hff := fill_eq _ _ _ _ hf
      unfold Instr.buildSlice
      rw [Sem.run_bind, run_underlying hT, Result.andThen_ok]
      simp only
      rw [Sem.run_bind, show (sizeOf E).run P w = .ok s w by simp [sizeOf, typeInfo, hi, hs], Result.andThen_ok]
      rw [if_neg (by simpa using hbig')]
      have key : ∀ zz : Array Value, (n * s ≠ 0 → zz = z0.toArray) → (Array.range (n * s)).map (fun x => zz[x % zz.size]!) = zero.toArray := by
        intro zz hzz
        by_cases h0 : n * s = 0
        · rw [h0] at hzero ⊢
          simp at hzero
          subst hzero
          simp
        · rw [hzz h0, ← hzero]
          apply Array.ext'
          simp
      by_cases h0 : n * s = 0
      · have := key #[] (fun h => absurd h0 h)
        simp [h0] at this ⊢
        rw [h0] at hzero
        simp only [List.range_zero, List.map_nil] at hzero
        subst hzero
        have e0 : Array.map (fun _ : Nat => (default : Value)) (Array.range 0) = #[] := by simp
        rw [e0, hff]
        simp [newRow]
      · have hk := key z0.toArray (fun _ => rfl)
        simp [h0, zeroValue, typeInfo, hi, hz0, hz]
        simp at hk
        rw [hk, hff]
        simp [newRow]
theorem WL_buildSliceS {d : Tmp} {T E : TypeId} {n s : Nat} {parts : List (Nat × Operand)} {zero z0 cells : List Value} {vs : List (Nat × Value)} (hT : P.underlying T = some (.slice E)) (hs : (P.info? E).map (·.size) = some s) (hz : (P.info? E).map (·.zero.map (·.cells)) = some (some z0.toArray)) (hbig : Nat.ble (n * s) 16777216 = true)
    (hzero : (List.range (n * s)).map (fun i => z0.toArray[i % z0.length]!) = zero) (hx : parts.map (fun x => (x.1, evo N f x.2)) = vs) (hf : fillL (fun i => some (i * s, s)) zero vs = some cells) (H : St w0 M cs ro w)
    (h : ∀ b w', St w0 M (blk b cells E :: cs) ro w' → WL P N ops Q rest (upd f d (.slice (some ⟨b, 0, none⟩) n n)) w') :
    WL P N ops Q (⟨some d, .buildSlice T n parts.toArray, ty, pos, aft, none⟩ :: rest) f w :=
  WL_buildSlice (l := cells) (E := E) (fun w => by
    subst hx
    have := buildSlice_run (P := P) hT hs hz hbig hzero hf w
    simpa using this) H h
/-! ### fields of a value -/
theorem x_fieldS {d : Tmp} {x : Operand} {T ft : TypeId} {fs : Array Field} {fd : Field} {td : TypeDesc} {i off : Nat} {vs : List Value} {v : Value} (hT : P.underlying T = some (.struct fs)) (hf : fs[i]? = some fd) (ht : P.underlying ft = some td) (hn : td.isRow = false)
    (ho : fd.offset = off) (hft : fd.type = ft) (hx : evo N f x = .agg vs.toArray) (hv : vs[off]? = some v) :
    (execOp (evo N f) ⟨some d, .field T x i, ty, pos, aft, g⟩).run P w = .ok (.value (v)) w :=
  x_field hx (fun w => by
    subst ho; subst hft
    unfold Instr.field
    rw [Sem.run_bind, run_underlying hT, Result.andThen_ok]
    simp only [hf, asAgg, Sem.run_bind, Sem.run_pure, Result.andThen_ok, part, isAgg_run ht]
    cases td <;> simp_all [TypeDesc.isRow])
theorem x_fieldA {d : Tmp} {x : Operand} {T ft : TypeId} {fs : Array Field} {fd : Field} {td : TypeDesc} {i off n : Nat} {vs vs' : List Value} (hT : P.underlying T = some (.struct fs)) (hf : fs[i]? = some fd) (ht : P.underlying ft = some td) (hn : td.isRow = true)
    (hs : (P.info? ft).map (·.size) = some n) (ho : fd.offset = off) (hft : fd.type = ft) (hx : evo N f x = .agg vs.toArray) (hv : (vs.drop off).take n = vs') :
    (execOp (evo N f) ⟨some d, .field T x i, ty, pos, aft, g⟩).run P w = .ok (.value ((.agg vs'.toArray))) w :=
  x_field hx (fun w => by
    subst ho; subst hft
    cases hi : P.info? fd.type with
    | none => simp [hi] at hs
    | some j =>
      simp [hi] at hs
      unfold Instr.field
      rw [Sem.run_bind, run_underlying hT, Result.andThen_ok]
      have e : vs.toArray.extract fd.offset (fd.offset + n) = vs'.toArray := by
        rw [← hv]; apply Array.ext'; simp
      cases td <;> simp [TypeDesc.isRow] at hn <;> simp [hf, asAgg, part, isAgg_run ht, sizeOf, typeInfo, hi, hs, hv])
end
/-! ### numbers in range -/
theorem i64_in {n : Int} (h0 : -9223372036854775808 ≤ n) (h1 : n ≤ 9223372036854775807) : IntKind.i64.wrap n = n := by rw [IntKind.wrap_i64]; omega
theorem i32_in {n : Int} (h0 : -2147483648 ≤ n) (h1 : n ≤ 2147483647) : IntKind.i32.wrap n = n := by rw [IntKind.wrap_i32]; omega
theorem u8_in {n : Int} (h0 : 0 ≤ n) (h1 : n ≤ 255) : IntKind.u8.wrap n = n := by rw [IntKind.wrap_u8]; omega
theorem u32_in {n : Int} (h0 : 0 ≤ n) (h1 : n ≤ 4294967295) : IntKind.u32.wrap n = n := by rw [IntKind.wrap_u32]; omega
theorem wrap_u16 (n : Int) : IntKind.u16.wrap n = n % 65536 := by simp [IntKind.wrap, IntKind.bits, IntKind.signed]
theorem wrap_u64 (n : Int) : IntKind.u64.wrap n = n % 18446744073709551616 := by simp [IntKind.wrap, IntKind.bits, IntKind.signed]
theorem u16_in {n : Int} (h0 : 0 ≤ n) (h1 : n ≤ 65535) : IntKind.u16.wrap n = n := by rw [wrap_u16]; omega
theorem u64_in {n : Int} (h0 : 0 ≤ n) (h1 : n ≤ 18446744073709551615) : IntKind.u64.wrap n = n := by rw [wrap_u64]; omega
section
variable {P : Program} {t : TypeId} {k : IntKind} {a b : Int}
theorem r_add_in (h : k.wrap (a + b) = a + b) (w : World) : (binOp .add t (.int k a) (.int k b)).run P w = .ok (.int k (a + b)) w := by rw [r_add, h]
theorem r_sub_in (h : k.wrap (a - b) = a - b) (w : World) : (binOp .sub t (.int k a) (.int k b)).run P w = .ok (.int k (a - b)) w := by rw [r_sub, h]
theorem r_mul_in (h : k.wrap (a * b) = a * b) (w : World) : (binOp .mul t (.int k a) (.int k b)).run P w = .ok (.int k (a * b)) w := by rw [r_mul, h]
theorem r_rem_nat (ha : 0 ≤ a) (hb : 0 < b) (w : World) : (binOp .rem t (.int k a) (.int k b)).run P w = .ok (.int k (a % b)) w := by
  rw [r_rem (by omega), Int.tmod_eq_emod_of_nonneg ha]
theorem r_quo_nat (ha : 0 ≤ a) (hb : 0 < b) (hr : k.wrap (a / b) = a / b) (w : World) : (binOp .quo t (.int k a) (.int k b)).run P w = .ok (.int k (a / b)) w := by
  rw [r_quo (by omega), Int.tdiv_eq_ediv_of_nonneg ha, hr]
end
end Go.HW
