import Derived.Test.YtecdgmdkepiopaaHWSort2
set_option linter.unusedSimpArgs false
set_option linter.unusedVariables false
namespace Go.HW
open Go
/-! ### the dice, in plain numbers -/
def xr (a b : Int) : Int := bits .xor .u64 a b
def w64 (a : Int) : Int := IntKind.u64.wrap a
theorem w64_range (a : Int) : 0 ≤ w64 a ∧ w64 a < 18446744073709551616 := by unfold w64; rw [wrap_u64]; omega
theorem xr_range (a b : Int) : 0 ≤ xr a b ∧ xr a b < 18446744073709551616 := by
  unfold xr bits
  have := w64_range ((BitVec.ofInt 64 a ^^^ BitVec.ofInt 64 b).toNat : Int)
  exact this
def mixA (z : Int) : Int := w64 (xr z (z / 1073741824) * 13787848793156543929)
def mixB (z : Int) : Int := w64 (xr z (z / 134217728) * 10723151780598845931)
def mixC (z : Int) : Int := xr z (z / 2147483648)
def mixZ (z : Int) : Int := mixC (mixB (mixA z))
def stepS (s : Int) : Int := w64 (s + 11400714819323198485)
def rollX (s : Int) : Int := IntKind.u32.wrap (mixZ (stepS s) / 4294967296)
def belowX (s n : Int) : Int := IntKind.u32.wrap (w64 (rollX s * n) / 4294967296)
theorem u32w_range (a : Int) : 0 ≤ IntKind.u32.wrap a ∧ IntKind.u32.wrap a < 4294967296 := by rw [IntKind.wrap_u32]; omega
theorem rollX_range (s : Int) : 0 ≤ rollX s ∧ rollX s < 4294967296 := u32w_range _
theorem stepS_range (s : Int) : 0 ≤ stepS s ∧ stepS s < 18446744073709551616 := w64_range _
theorem belowX_range (s n : Int) : 0 ≤ belowX s n ∧ belowX s n < 4294967296 := u32w_range _
theorem belowX_lt (s n : Int) (h0 : 0 < n) (h1 : n < 4294967296) : belowX s n < n := by
  have hr := rollX_range s
  unfold belowX
  generalize rollX s = r at hr ⊢
  have h2 : r * n ≤ 4294967295 * n := Int.mul_le_mul_of_nonneg_right (by omega) (by omega)
  have h3 : 0 ≤ r * n := Int.mul_nonneg hr.1 (by omega)
  have e : w64 (r * n) = r * n := u64_in h3 (by omega)
  rw [e]
  have h4 : r * n / 4294967296 < n := Int.ediv_lt_of_lt_mul (by decide) (by omega)
  have h5 : 0 ≤ r * n / 4294967296 := Int.ediv_nonneg h3 (by decide)
  rw [u32_in h5 (by omega)]
  exact h4
theorem sh30 (x : Int) : x.fdiv (2 ^ min (Int.toNat 30) (IntKind.bits .u64)) = x / 1073741824 := shr_div (k := 30) rfl
theorem sh27 (x : Int) : x.fdiv (2 ^ min (Int.toNat 27) (IntKind.bits .u64)) = x / 134217728 := shr_div (k := 27) rfl
theorem sh31 (x : Int) : x.fdiv (2 ^ min (Int.toNat 31) (IntKind.bits .u64)) = x / 2147483648 := shr_div (k := 31) rfl
theorem sh32 (x : Int) : x.fdiv (2 ^ min (Int.toNat 32) (IntKind.bits .u64)) = x / 4294967296 := shr_div (k := 32) rfl
theorem quo64 {x c : Int} (h : 0 ≤ x ∧ x < 18446744073709551616) (hc : 0 < c) : IntKind.u64.wrap (x.tdiv c) = x / c := by
  rw [Int.tdiv_eq_ediv_of_nonneg h.1, u64_in (Int.ediv_nonneg h.1 (by omega)) (by have := Int.ediv_le_self c h.1; omega)]
/-- the list that is shuffled, m of it still to come -/
def shufG (st : Int → Int) (bl : Int → Int → Int) : Nat → Int → Array Int → Array Int × Int
  | 0, s, d => (d, s)
  | 1, s, d => (d, s)
  | m + 2, s, d => shufG st bl (m + 1) (st s) (Go.Sort.swp d (m + 1) (bl s ((m + 2 : Nat) : Int)).toNat)
theorem shufG_go (st : Int → Int) (bl : Int → Int → Int) (m : Nat) (s : Int) (d : Array Int) : shufG st bl (m + 2) s d = shufG st bl (m + 1) (st s) (Go.Sort.swp d (m + 1) (bl s ((m + 2 : Nat) : Int)).toNat) := rfl
theorem shufG_perm (st : Int → Int) (bl : Int → Int → Int) (h : ∀ s n, 0 < n → n < 4294967296 → 0 ≤ bl s n ∧ bl s n < n) (m : Nat) : ∀ (s : Int) (d : Array Int), m ≤ d.size → m ≤ 1000000 → (shufG st bl m s d).1.toList.Perm d.toList := by
  induction m with
  | zero => intro s d _ _; exact List.Perm.refl _
  | succ m ih =>
    intro s d h0 hb
    cases m with
    | zero => exact List.Perm.refl _
    | succ m =>
      rw [shufG_go]
      have h2 := h s ((m + 2 : Nat) : Int) (by omega) (by omega)
      generalize hq : (bl s ((m + 2 : Nat) : Int)).toNat = q
      have hq2 : q < m + 2 := by omega
      have hp := Go.Sort.swp_permIn d 0 d.size (m + 1) q (by omega) (by omega) (by omega) (by omega) (Nat.le_refl _)
      exact (ih _ _ (by simp [Go.Sort.swp]; omega) (by omega)).trans (permIn_perm hp (Nat.le_refl _))
theorem shufG_range (st : Int → Int) (bl : Int → Int → Int) (P : Int → Prop) (hP : ∀ s, P (st s)) (m : Nat) : ∀ (s : Int) (d : Array Int), P s → P (shufG st bl m s d).2 := by
  induction m with
  | zero => intro s d h; exact h
  | succ m ih =>
    intro s d h
    cases m with
    | zero => exact h
    | succ m => rw [shufG_go]; exact ih _ _ (hP s)
theorem shufG_end (st : Int → Int) (bl : Int → Int → Int) {m : Nat} {s : Int} {d : Array Int} (h : m ≤ 1) : shufG st bl m s d = (d, s) := by
  rcases m with _ | _ | m
  · rfl
  · rfl
  · omega
def shufM : Nat → Int → Array Int → Array Int × Int := shufG stepS belowX
theorem shufM_end {m : Nat} {s : Int} {d : Array Int} (h : m ≤ 1) : shufM m s d = (d, s) := shufG_end _ _ h
theorem shufM_go (m : Nat) (s : Int) (d : Array Int) : shufM (m + 2) s d = shufM (m + 1) (stepS s) (Go.Sort.swp d (m + 1) (belowX s ((m + 2 : Nat) : Int)).toNat) := shufG_go _ _ _ _ _
theorem shufM_perm (m : Nat) (s : Int) (d : Array Int) : m ≤ d.size → m ≤ 1000000 → (shufM m s d).1.toList.Perm d.toList :=
  shufG_perm stepS belowX (fun s n h0 h1 => ⟨(belowX_range s n).1, belowX_lt s n h0 h1⟩) m s d
theorem shufM_range (m : Nat) (s : Int) (d : Array Int) : (0 ≤ s ∧ s < 18446744073709551616) → 0 ≤ (shufM m s d).2 ∧ (shufM m s d).2 < 18446744073709551616 :=
  shufG_range stepS belowX (fun s => 0 ≤ s ∧ s < 18446744073709551616) stepS_range m s d
/-- two sorted lists of the same numbers -/
theorem sorted_same {d e D E : Array Int} {n : Nat} (hd : d.toList.length = n) (he : e.toList.length = n) (hp : d.toList.Perm e.toList) (h1 : Go.Sort.PermIn 0 n d D) (s1 : Go.Sort.SortedIn Go.Sort.ltInt 0 n D) (h2 : Go.Sort.PermIn 0 n e E) (s2 : Go.Sort.SortedIn Go.Sort.ltInt 0 n E) : D.toList = E.toList := by
  have p1 := permIn_perm h1 (by rw [size_of hd]; exact Nat.le_refl _)
  have p2 := permIn_perm h2 (by rw [size_of he]; exact Nat.le_refl _)
  have l1 := permIn_len h1
  have l2 := permIn_len h2
  refine sorted_unique (sortedOn_pairwise (by rw [l1, hd]; exact sortedIn_on s1)) (sortedOn_pairwise (by rw [l2, he]; exact sortedIn_on s2)) (p1.trans (hp.trans p2.symm))
end Go.HW
