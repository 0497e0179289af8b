import Derived.Test.YtecdgmdkepiopaaHWMem
import Derived.Maps.AppendAt
set_option linter.unusedSimpArgs false
set_option linter.unusedVariables false
namespace Go.HW
open Go Go.RowKit

section
variable {P : Program} {N : Nat} {ops : Array Oper} {Q : Post} {rest : List Oper} {f : Env} {w : World}
variable {ty : TypeId} {pos : String} {aft : Array Edge} {g : Option (Nat × Bool)}
variable {w0 : World} {M : List Nat} {cs ro cs' : List Ck}

/-! ### builtins -/
theorem builtin_run {b : Builtin} {args : List Operand} {ts : Array TypeId} {vs : List Value} {o : Oper} (ho : o.op = .call { callee := .builtin b, args := args.toArray, argTypes := ts }) (hx : args.map (evo N f) = vs) :
    ∃ cst, (execOp (evo N f) o).run P w = (builtin b ts o.type cst vs.toArray).run P w := by
  subst hx
  simp only [execOp, ho, resolve, Sem.run_bind, Sem.run_pure, Result.andThen_ok, invoke, List.map_toArray]
  exact ⟨_, rfl⟩
theorem WL_builtin {d : Option Tmp} {b : Builtin} {args : List Operand} {ts : Array TypeId} {vs : List Value} {v : Value} {w' : World} (hx : args.map (evo N f) = vs)
    (hr : ∀ cst, (builtin b ts ty cst vs.toArray).run P w = .ok (.value v) w') (h : WL P N ops Q rest (putE f d v) w') :
    WL P N ops Q (⟨d, .call { callee := .builtin b, args := args.toArray, argTypes := ts }, ty, pos, aft, none⟩ :: rest) f w :=
  WL_run (v := v) (w' := w') rfl (by obtain ⟨cst, hc⟩ := builtin_run (P := P) (w := w) (o := ⟨d, .call { callee := .builtin b, args := args.toArray, argTypes := ts }, ty, pos, aft, none⟩) rfl hx; rw [hc]; exact hr _) h
theorem X_builtin {d : Option Tmp} {b : Builtin} {args : List Operand} {ts : Array TypeId} {vs : List Value} {v : Value} {w' : World} (hx : args.map (evo N f) = vs)
    (hr : ∀ cst, (builtin b ts ty cst vs.toArray).run P w = .ok (.value v) w') :
    (execOp (evo N f) ⟨d, .call { callee := .builtin b, args := args.toArray, argTypes := ts }, ty, pos, aft, g⟩).run P w = .ok (.value v) w' := by
  obtain ⟨cst, hc⟩ := builtin_run (P := P) (w := w) (o := ⟨d, .call { callee := .builtin b, args := args.toArray, argTypes := ts }, ty, pos, aft, g⟩) rfl hx; rw [hc]; exact hr _
theorem x_len {d : Tmp} {x : Operand} {T E : TypeId} {A : Option Addr} {n c : Nat} (hT : P.underlying T = some (.slice E)) (hx : evo N f x = .slice A n c) :
    (execOp (evo N f) ⟨some d, .call { callee := .builtin .len, args := #[x], argTypes := #[T] }, ty, pos, aft, g⟩).run P w = .ok (.value ((.int .i64 n))) w :=
  X_builtin (args := [x]) (vs := [.slice A n c]) (v := .int .i64 n) (by simp [hx]) (fun cst => by
    show (do pure (Next.value (← Builtin.len_ #[T] ty #[.slice A n c])) : Sem Next).run P w = _
    exact run_v (by simp [Builtin.len_, run_underlying hT, goInt]))
theorem x_len_str {d : Tmp} {x : Operand} {T : TypeId} {s : ByteArray} (hT : P.underlying T = some .string) (hx : evo N f x = .string s) :
    (execOp (evo N f) ⟨some d, .call { callee := .builtin .len, args := #[x], argTypes := #[T] }, ty, pos, aft, g⟩).run P w = .ok (.value ((.int .i64 s.size))) w :=
  X_builtin (args := [x]) (vs := [.string s]) (v := .int .i64 s.size) (by simp [hx]) (fun cst => by
    show (do pure (Next.value (← Builtin.len_ #[T] ty #[.string s])) : Sem Next).run P w = _
    exact run_v (by simp [Builtin.len_, run_underlying hT, goInt]))
theorem x_cap {d : Tmp} {x : Operand} {T E : TypeId} {A : Option Addr} {n c : Nat} (hT : P.underlying T = some (.slice E)) (hx : evo N f x = .slice A n c) :
    (execOp (evo N f) ⟨some d, .call { callee := .builtin .cap, args := #[x], argTypes := #[T] }, ty, pos, aft, g⟩).run P w = .ok (.value ((.int .i64 c))) w :=
  X_builtin (args := [x]) (vs := [.slice A n c]) (v := .int .i64 c) (by simp [hx]) (fun cst => by
    show (do pure (Next.value (← Builtin.cap_ #[T] ty #[.slice A n c])) : Sem Next).run P w = _
    exact run_v (by simp [Builtin.cap_, run_underlying hT, goInt]))
theorem x_min {d : Tmp} {x y : Operand} {ts : Array TypeId} {k k' : IntKind} {a b : Int} (hx : evo N f x = .int k a) (hy : evo N f y = .int k' b) :
    (execOp (evo N f) ⟨some d, .call { callee := .builtin .min, args := #[x, y], argTypes := ts }, ty, pos, aft, g⟩).run P w = .ok (.value ((.int k (min a b)))) w :=
  X_builtin (args := [x, y]) (vs := [.int k a, .int k' b]) (v := .int k (min a b)) (by simp [hx, hy]) (fun cst => by
    show (do pure (Next.value (← Builtin.min_ ts ty #[.int k a, .int k' b])) : Sem Next).run P w = _
    refine run_v ?_
    simp [Builtin.min_, Builtin.min2]
    split <;> omega)
theorem x_max {d : Tmp} {x y : Operand} {ts : Array TypeId} {k k' : IntKind} {a b : Int} (hx : evo N f x = .int k a) (hy : evo N f y = .int k' b) :
    (execOp (evo N f) ⟨some d, .call { callee := .builtin .max, args := #[x, y], argTypes := ts }, ty, pos, aft, g⟩).run P w = .ok (.value ((.int k (max a b)))) w :=
  X_builtin (args := [x, y]) (vs := [.int k a, .int k' b]) (v := .int k (max a b)) (by simp [hx, hy]) (fun cst => by
    show (do pure (Next.value (← Builtin.max_ ts ty #[.int k a, .int k' b])) : Sem Next).run P w = _
    refine run_v ?_
    simp [Builtin.max_, Builtin.max2]
    split <;> omega)
/-- append onto a slice of the call's own -/
theorem append_key {T E : TypeId} {i : TypeInfo} {z : Value} {n m c c0 bytes size : Nat} {xs news : List Value} {A A0 : Option Addr}
    (hT : P.underlying T = some (.slice E)) (hi : P.info? E = some i) (hz : i.zero = some z) (hsz : i.size = size) (hby : i.bytes = bytes) (hzs : z.cells.size = size) (hpos : 0 < size)
    (hown : w.ownsRow 0 E size (.slice A0 n c0) n xs) (hnl : news.length = m * size) (hnews : Cells w A news) (hone : ∀ u ∈ news, u.oneCell' = true) (hlen : n + m ≤ maxLen) (hbytes : (n + m) * bytes ≤ 140737488355328) :
    ∃ A' c' w', (Builtin.append_ #[T, T] ty #[.slice A0 n c0, .slice A m c]).run P w = .ok (.slice A' (n + m) c') w' ∧ w'.ownsRow 0 E size (.slice A' (n + m) c') (n + m) (xs ++ news) ∧ w.grownBy w' (Value.slice A0 n c0).ownBlock ∧
      (∀ b, b ∈ A'.toList.map (·.block) → b ∈ A0.toList.map (·.block) ∨ w.heap.size ≤ b) := by
  have shape : ∀ (v' : Value) (w' : World), w'.ownsRow 0 E size v' (n + m) (xs ++ news) → ∃ A' c', v' = .slice A' (n + m) c' := by
    intro v' w' ho
    rcases ho.2 with ⟨rfl, h0⟩ | ⟨g, cap, cur, rfl, _⟩
    · exact ⟨none, 0, by rw [h0]⟩
    · exact ⟨_, _, rfl⟩
  have fin : ∀ ad : Addr, (∀ j u, news[j]? = some u → w.cell? (ad.add j) = some u) → ∃ A' c' w', (Builtin.append_ #[T, T] ty #[.slice A0 n c0, .slice (some ad) m c]).run P w = .ok (.slice A' (n + m) c') w' ∧ w'.ownsRow 0 E size (.slice A' (n + m) c') (n + m) (xs ++ news) ∧ w.grownBy w' (Value.slice A0 n c0).ownBlock ∧
      (∀ b, b ∈ A'.toList.map (·.block) → b ∈ A0.toList.map (·.block) ∨ w.heap.size ≤ b) := by
    intro ad hn
    obtain ⟨v', w', hr, ho', hg, _, hb⟩ := run_append_own_at (P := P) w 0 T ty E i z size bytes hT hi hz hsz hby hzs hpos (.slice A0 n c0) n xs hown ad m c news hnl hn hone hlen hbytes (Nat.zero_le _)
    obtain ⟨A', c', rfl⟩ := shape v' w' ho'
    refine ⟨A', c', w', hr, ho', hg, fun b hb' => ?_⟩
    cases A' with
    | none => simp at hb'
    | some a' =>
      simp at hb'
      subst hb'
      rcases hb with hb | hb
      · cases A0 with
        | none => simp [Value.ownBlock] at hb
        | some a0 => simp [Value.ownBlock] at hb; simp [hb]
      · simp [Value.ownBlock] at hb; exact .inr (by omega)
  cases hA : A with
  | some ad =>
    exact fin ad (fun j u hj => by
      have h1 := hnews.some_ (by intro e; subst e; simp at hj)
      rw [hA] at h1
      simp only [Option.some.injEq] at h1
      have h2 := hnews.at_ j u hj
      rw [hA] at h2
      rw [h1, Addr.add_mid]
      exact h2)
  | none =>
    subst hA
    have hne : news = [] := Classical.byContradiction fun h => by have := hnews.some_ h; simp at this
    subst hne
    have hm : m = 0 := by
      simp only [List.length_nil] at hnl
      rcases Nat.mul_eq_zero.1 hnl.symm with h | h <;> omega
    subst hm
    refine ⟨A0, c0, w, ?_, by simpa using hown, ⟨rfl, rfl, rfl, Nat.le_refl _, fun _ _ _ => rfl⟩, fun b hb => .inl hb⟩
    have hle := (owns_len hown).1
    rcases hown.2 with ⟨he, h0⟩ | ⟨g, cap, cur, he, _⟩ <;> simp only [Value.slice.injEq] at he
    · obtain ⟨rfl, rfl, rfl⟩ := he
      simp [Builtin.append_, run_underlying hT, sizeOf, typeInfo, hi, Builtin.lenOf, Builtin.firstCells]
    · obtain ⟨rfl, _, _⟩ := he
      simp [Builtin.append_, run_underlying hT, sizeOf, typeInfo, hi, Builtin.lenOf, Builtin.firstCells, hle, storeCells]
theorem WL_append {d : Tmp} {x y : Operand} {T E : TypeId} {i : TypeInfo} {z : Value} {n m c c0 bytes size : Nat} {xs news : List Value} {A A0 : Option Addr} {cs'' : Option Addr → Nat → List Ck}
    (hT : P.underlying T = some (.slice E)) (hi : P.info? E = some i) (hz : i.zero = some z) (hsz : i.size = size) (hby : i.bytes = bytes) (hzs : z.cells.size = size) (hpos : Nat.blt 0 size = true)
    (hx : evo N f x = .slice A0 n c0) (hy : evo N f y = .slice A m c) (H : St w0 M cs ro w) (hA : ∀ A' c', At (row A0 c0 E size n xs) (row A' c' E size (n + m) (xs ++ news)) cs (cs'' A' c'))
    (hnl : news.length = m * size) (hnews : Cells w A news) (hone : ∀ u ∈ news, u.oneCell' = true) (hlen : n + m ≤ maxLen) (hbytes : (n + m) * bytes ≤ 140737488355328)
    (h : ∀ A' c' w', St w0 M (cs'' A' c') ro w' → WL P N ops Q rest (upd f d (.slice A' (n + m) c')) w') :
    WL P N ops Q (⟨some d, .call { callee := .builtin .append, args := #[x, y], argTypes := #[T, T] }, ty, pos, aft, none⟩ :: rest) f w := by
  have hown : w.ownsRow 0 E size (.slice A0 n c0) n xs := H.get (hA A 0).mem
  obtain ⟨A', c', w', hr, ho', hg, hb⟩ := append_key (P := P) (ty := ty) (c := c) hT hi hz hsz hby hzs (by simpa [Nat.blt_eq] using hpos) hown hnl hnews hone hlen hbytes
  refine WL_builtin (args := [x, y]) (vs := [.slice A0 n c0, .slice A m c]) (w' := w') (v := .slice A' (n + m) c') (by simp [hx, hy]) (fun cst => run_v hr) (h A' c' w' (H.turn (hA A' c') (Fr.grown hg) ?_ (row_ok ho') ?_))
  · intro b hb'
    exact .inl (by cases A0 <;> simp_all [row, Value.ownBlock])
  · intro b hb'
    exact hb b (by simpa [row] using hb')

/-! ### conditions -/
theorem WC_if {c : Operand} {x y : Code} {b : Bool} (hc : evo N f c = .bool b) (hT : b = true → WC P N x Q f w) (hF : b = false → WC P N y Q f w) : WC P N (.cond c x y) Q f w := by
  refine WC_cond hc ?_
  cases b
  · exact hF rfl
  · exact hT rfl
theorem WC_ifd {c : Operand} {x y : Code} {p : Prop} [Decidable p] (hc : evo N f c = .bool (decide p)) (hT : p → WC P N x Q f w) (hF : ¬ p → WC P N y Q f w) : WC P N (.cond c x y) Q f w :=
  WC_if hc (fun h => hT (of_decide_eq_true h)) (fun h => hF (of_decide_eq_false h))
theorem WC_ifn {c : Operand} {x y : Code} {p : Prop} [Decidable p] (hc : evo N f c = .bool (!decide p)) (hT : ¬ p → WC P N x Q f w) (hF : p → WC P N y Q f w) : WC P N (.cond c x y) Q f w :=
  WC_if hc (fun h => hT (by simpa using h)) (fun h => hF (by simpa using h))
theorem WC_yes {c : Operand} {x y : Code} (hc : evo N f c = .bool true) (h : WC P N x Q f w) : WC P N (.cond c x y) Q f w := WC_cond hc h
theorem WC_no {c : Operand} {x y : Code} (hc : evo N f c = .bool false) (h : WC P N y Q f w) : WC P N (.cond c x y) Q f w := WC_cond hc h

/-! ### joins and loops -/
theorem WC_cut {σ : Sort _} {x y : Code} (J : σ → Env → World → Prop) (h1 : WC P N x (thenE (fun f w => ∃ s, J s f w) Q) f w) (h2 : ∀ s f w, J s f w → WC P N y Q f w) : WC P N (.seq x y) Q f w :=
  WC_seq (WC_mono h1 fun e f w q => by
    cases e with
    | normal => obtain ⟨s, hs⟩ := q; exact h2 s f w hs
    | _ => exact q)
theorem WC_while {σ : Sort _} {c : Code} (I : σ → Env → World → Prop) (μ : σ → Nat) {s0 : σ} (h₀ : I s0 f w)
    (round : ∀ s f w, I s f w → WC P N c (thenE (fun f' w' => ∃ s', I s' f' w' ∧ μ s' < μ s) Q) f w) : WC P N (.loop c) Q f w := by
  intro b k cs
  have key : ∀ n s f w, μ s = n → I s f w →
      ∃ e a' w', lift N Q e a' w' ∧ Arrives P (lone (b.at (mk N f) (.code c :: .inLoop c :: k)) cs w) b k cs e a' w' := by
    intro n
    induction n using Nat.strongRecOn with
    | _ n ih =>
      intro s f w hn hI
      obtain ⟨e, a₁, w₁, ⟨f₁, rfl, hq⟩, harr⟩ := round s f w hI b (.inLoop c :: k) cs
      cases e with
      | normal =>
        obtain ⟨s', hI₁, hlt⟩ := hq
        obtain ⟨e₂, a₂, w₂, hq₂, harr₂⟩ := ih (μ s') (hn ▸ hlt) s' f₁ w₁ rfl hI₁
        exact ⟨e₂, a₂, w₂, hq₂, .of_steps (Steps.trans harr (.one step_inLoop)) harr₂⟩
      | exit id => exact ⟨_, _, w₁, ⟨f₁, rfl, hq⟩, .pass (x := .inLoop c) rfl (fun _ _ => .inl (by simp)) harr⟩
      | goto l => exact ⟨_, _, w₁, ⟨f₁, rfl, hq⟩, .pass (x := .inLoop c) rfl (fun _ _ => .inl (by simp)) harr⟩
      | ret => exact ⟨_, _, w₁, ⟨f₁, rfl, hq⟩, .pass (x := .inLoop c) rfl (fun _ _ => .inl (by simp)) harr⟩
      | panic ch => exact ⟨_, _, w₁, ⟨f₁, rfl, hq⟩, .pass (x := .inLoop c) rfl (fun _ _ => .inl (by simp)) harr⟩
      | outgrown => exact ⟨_, _, w₁, ⟨f₁, rfl, hq⟩, .pass (x := .inLoop c) rfl (fun _ _ => .inl (by simp)) harr⟩
  obtain ⟨e, a', w', hq, harr⟩ := key _ s0 f w rfl h₀
  exact ⟨e, a', w', hq, .of_steps (.one step_loop) harr⟩
theorem thenE_exit {next : Env → World → Prop} {id : Nat} (h : Q (.exit id) f w) : thenE next Q (.exit id) f w := h
theorem thenE_ret {next : Env → World → Prop} (h : Q .ret f w) : thenE next Q .ret f w := h
theorem inBlockE_normal {id : Nat} (h : Q .normal f w) : inBlockE id Q .normal f w := h
theorem inBlockE_ret {id : Nat} (h : Q .ret f w) : inBlockE id Q .ret f w := h
theorem inBlockE_exit {id : Nat} (h : Q .normal f w) : inBlockE id Q (.exit id) f w := by simp only [inBlockE, Nat.beq_refl]; exact h
theorem inBlockE_other {id id' : Nat} (hn : Nat.beq id' id = false) (h : Q (.exit id') f w) : inBlockE id Q (.exit id') f w := by simp only [inBlockE, hn]; exact h

/-! ### calls -/
theorem WL_call {d : Option Tmp} {g : FuncId} {fn : Func} {args : List Operand} {ts : Array TypeId} {vs : List Value} {R : Ending → World → Prop}
    {c : Code} (hfn : P.funcs[g]? = some fn) (hb : fn.body = some c) (hname : (fn.name == "runtime.NumGoroutine") = false) (hx : args.map (evo N f) = vs)
    (hc : Calls P g vs.toArray w R) (h : ∀ e w', R e w' → ∃ v, e = .returned v ∧ WL P N ops Q rest (putE f d v) w') :
    WL P N ops Q (⟨d, .call { callee := .value (.func g), args := args.toArray, argTypes := ts }, ty, pos, aft, none⟩ :: rest) f w := by
  subst hx
  refine wpList_plain rfl fun K hK => ?_
  unfold Oper.wp
  have hr : (execOp (mk N f).eval ⟨d, .call { callee := .value (.func g), args := args.toArray, argTypes := ts }, ty, pos, aft, none⟩).run P w = .ok (.enter g (args.map (evo N f)).toArray) w := by
    rw [mk_evalF]
    have hname' : ¬ fn.name = "runtime.NumGoroutine" := by simpa using hname
    simp [execOp, resolve, evo, Deferred.ofValue, invoke, callFunc, hfn, hname', hb]
  rw [hr, Oper.upon_enter]
  intro cs
  obtain ⟨e, w', fr, hR, hcm, hfr, hl⟩ := hc cs
  refine ⟨e, w', fr, ?_, hcm, hfr, hl⟩
  obtain ⟨v, rfl, hw⟩ := h e w' hR
  show K ((mk N f).put d v) w'
  rw [mk_put]
  exact hK _ _ hw

/-! ### the way in and out -/
def envOf : List Value → Env
  | [], _ => undef
  | v :: _, 0 => v
  | _ :: l, n + 1 => envOf l n
theorem mk_enter (N : Nat) (args : List Value) (h : args.length ≤ N) : ({ tmps := args.toArray ++ Array.replicate (N - args.toArray.size) undef, defers := [] } : Act) = mk N (envOf args) := by
  simp only [mk, Act.mk.injEq, and_true]
  apply Array.ext_getElem?
  intro i
  have henv : ∀ (l : List Value) (j : Nat), envOf l j = (l[j]?).getD undef := by
    intro l
    induction l with
    | nil => intro j; simp [envOf]
    | cons v l ih => intro j; cases j <;> simp [envOf, ih]
  simp only [List.size_toArray, List.getElem?_toArray, List.getElem?_map, Array.getElem?_append, Array.getElem?_replicate]
  by_cases h1 : i < args.length
  · have : i < N := by omega
    simp [h1, this, henv]
  · by_cases h2 : i < N
    · simp [h1, h2, henv, show i - args.length < N - args.length by omega]
    · simp [h1, h2, show ¬ i - args.length < N - args.length by omega]
/-- What a body leaves: its results. -/
def Ends (P : Program) (fn : Func) (N : Nat) (R : Ending → World → Prop) : Post
  | .normal, f, w | .ret, f, w => ∃ v, (results fn (mk N f).tmps).run P w = .ok v w ∧ R (.returned v) w
  | _, _, _ => False
theorem calls_enter {g : FuncId} {fn : Func} {c : Code} {args : List Value} {w : World} {R : Ending → World → Prop} (hf : P.funcs[g]? = some fn) (hb : fn.body = some c) (hN : fn.ntmps = N) (hl : Nat.ble args.length N = true)
    (h : WC P N c (Ends P fn N R) (envOf args) w) : Calls P g args.toArray w R := by
  refine calls_of_wp hf hb ?_
  rw [hN, mk_enter N args (Nat.le_of_ble_eq_true hl)]
  refine wp_mono h fun e a w ⟨f, hf, q⟩ => ?_
  subst hf
  cases e with
  | normal => obtain ⟨v, hr, hR⟩ := q; exact ⟨rfl, v, hr, hR⟩
  | ret => obtain ⟨v, hr, hR⟩ := q; exact ⟨rfl, v, hr, hR⟩
  | _ => exact q.elim
theorem getD_mk {t : Nat} {v : Value} (ht : evo N f (.tmp t) = v) : (mk N f).tmps.getD t undef = v := by
  have := mk_eval N f (.tmp t)
  simp only [Act.eval] at this
  rw [this, ht]
section
variable {fn : Func} {R : Ending → World → Prop}
theorem ends0 (hr : fn.results = #[]) (h : R (.returned (.tuple #[])) w) : Ends P fn N R .ret f w := ⟨_, results_none hr _ P w, h⟩
theorem ends1 {t : Nat} {v : Value} (hr : fn.results = #[.tmp t]) (hv : evo N f (.tmp t) = v) (h : R (.returned v) w) : Ends P fn N R .ret f w :=
  ⟨v, by rw [results_tmp hr, getD_mk hv], h⟩
theorem ends2 {t u : Nat} {v1 v2 : Value} (hr : fn.results = #[.tmp t, .tmp u]) (h1 : evo N f (.tmp t) = v1) (h2 : evo N f (.tmp u) = v2) (h : R (.returned (.tuple #[v1, v2])) w) :
    Ends P fn N R .ret f w := ⟨_, by rw [results_tmp2 hr, getD_mk h1, getD_mk h2], h⟩
theorem ends3 {t u s : Nat} {v1 v2 v3 : Value} (hr : fn.results = #[.tmp t, .tmp u, .tmp s]) (h1 : evo N f (.tmp t) = v1) (h2 : evo N f (.tmp u) = v2) (h3 : evo N f (.tmp s) = v3) (h : R (.returned (.tuple #[v1, v2, v3])) w) :
    Ends P fn N R .ret f w := ⟨_, by rw [show (results fn (mk N f).tmps).run P w = .ok (.tuple #[(mk N f).tmps.getD t undef, (mk N f).tmps.getD u undef, (mk N f).tmps.getD s undef]) w by simp [results, hr], getD_mk h1, getD_mk h2, getD_mk h3], h⟩
theorem endn0 (hr : fn.results = #[]) (h : R (.returned (.tuple #[])) w) : Ends P fn N R .normal f w := ⟨_, results_none hr _ P w, h⟩
theorem endn1 {t : Nat} {v : Value} (hr : fn.results = #[.tmp t]) (hv : evo N f (.tmp t) = v) (h : R (.returned v) w) : Ends P fn N R .normal f w :=
  ⟨v, by rw [results_tmp hr, getD_mk hv], h⟩
theorem endn2 {t u : Nat} {v1 v2 : Value} (hr : fn.results = #[.tmp t, .tmp u]) (h1 : evo N f (.tmp t) = v1) (h2 : evo N f (.tmp u) = v2) (h : R (.returned (.tuple #[v1, v2])) w) :
    Ends P fn N R .normal f w := ⟨_, by rw [results_tmp2 hr, getD_mk h1, getD_mk h2], h⟩
theorem endn3 {t u s : Nat} {v1 v2 v3 : Value} (hr : fn.results = #[.tmp t, .tmp u, .tmp s]) (h1 : evo N f (.tmp t) = v1) (h2 : evo N f (.tmp u) = v2) (h3 : evo N f (.tmp s) = v3) (h : R (.returned (.tuple #[v1, v2, v3])) w) :
    Ends P fn N R .normal f w := ⟨_, by rw [show (results fn (mk N f).tmps).run P w = .ok (.tuple #[(mk N f).tmps.getD t undef, (mk N f).tmps.getD u undef, (mk N f).tmps.getD s undef]) w by simp [results, hr], getD_mk h1, getD_mk h2, getD_mk h3], h⟩
end
end
end Go.HW
