import Derived.Test.YtecdgmdkepiopaaHWMap
set_option linter.unusedSimpArgs false
set_option linter.unusedVariables false
set_option linter.unusedSectionVars false
namespace Go.HW
open Go
/-! ### two places change -/
def swapL (L : List Int) (i j : Nat) : List Int := (L.set i (nth L j)).set j (nth L i)
theorem swapL_length (L : List Int) (i j : Nat) : (swapL L i j).length = L.length := by simp [swapL]
theorem swapL_perm (L : List Int) (i j : Nat) (hi : i < L.length) (hj : j < L.length) : (swapL L i j).Perm L := by
  unfold swapL
  rw [nth_lt _ _ hi, nth_lt _ _ hj]
  exact List.set_set_perm hi hj
theorem nth_set (L : List Int) (i k : Nat) (v : Int) (hi : i < L.length) : nth (L.set i v) (k : Int) = if k = i then v else nth L (k : Int) := by
  simp only [nth, Int.toNat_natCast, List.getD_eq_getElem?_getD, List.getElem?_set]
  by_cases h : k = i
  · subst h; simp [hi]
  · simp [h, Ne.symm h]
theorem swapL_nth (L : List Int) (i j k : Nat) (hi : i < L.length) (hj : j < L.length) : nth (swapL L i j) (k : Int) = if k = j then nth L (i : Int) else if k = i then nth L (j : Int) else nth L (k : Int) := by
  unfold swapL
  rw [nth_set _ _ _ _ (by simpa using hj), nth_set _ _ _ _ hi]
def sortedOn (L : List Int) (a b : Nat) : Prop := ∀ p q : Nat, a ≤ p → p < q → q < b → nth L (p : Int) ≤ nth L (q : Int)
/-- the same outside, the same numbers -/
structure Within (L0 L : List Int) (a b : Nat) : Prop where
  len : L.length = L0.length
  perm : L.Perm L0
  out : ∀ k : Nat, k < a ∨ b ≤ k → nth L (k : Int) = nth L0 (k : Int)
theorem Within.refl (L : List Int) (a b : Nat) : Within L L a b := ⟨rfl, List.Perm.refl _, fun _ _ => rfl⟩
theorem Within.swap {L0 L : List Int} {a b : Nat} (h : Within L0 L a b) (i j : Nat) (hi : a ≤ i ∧ i < b) (hj : a ≤ j ∧ j < b) (hb : b ≤ L0.length) : Within L0 (swapL L i j) a b :=
  ⟨by rw [swapL_length, h.len], (swapL_perm L i j (by rw [h.len]; omega) (by rw [h.len]; omega)).trans h.perm, fun k hk => by
    rw [swapL_nth L i j k (by rw [h.len]; omega) (by rw [h.len]; omega), if_neg (by omega), if_neg (by omega)]; exact h.out k hk⟩
/-- in the midst of an insertion: the j-th is on its way down -/
structure Ins (L : List Int) (a i j : Nat) : Prop where
  rest : ∀ p q : Nat, a ≤ p → p < q → q ≤ i → p ≠ j → q ≠ j → nth L (p : Int) ≤ nth L (q : Int)
  low : ∀ q : Nat, j < q → q ≤ i → nth L (j : Int) ≤ nth L (q : Int)
theorem Ins.start {L : List Int} {a i : Nat} (h : sortedOn L a i) : Ins L a i i := ⟨fun p q h1 h2 h3 h4 h5 => h p q h1 h2 (by omega), fun q h1 h2 => by omega⟩
theorem Ins.step {L : List Int} {a i j : Nat} (h : Ins L a i (j + 1)) (ha : a ≤ j) (hj : j + 1 ≤ i) (hi : i < L.length) (hlt : nth L ((j + 1 : Nat) : Int) < nth L (j : Int)) : Ins (swapL L (j + 1) j) a i j := by
  have e := fun k => swapL_nth L (j + 1) j k (by omega) (by omega)
  constructor
  · intro p q h1 h2 h3 h4 h5
    rw [e p, e q, if_neg h4, if_neg h5]
    by_cases hp : p = j + 1
    · rw [if_pos hp, if_neg (by omega)]
      exact h.rest j q ha (by omega) h3 (by omega) (by omega)
    · rw [if_neg hp]
      by_cases hq : q = j + 1
      · rw [if_pos hq]
        exact h.rest p j h1 (by omega) (by omega) hp (by omega)
      · rw [if_neg hq]
        exact h.rest p q h1 h2 h3 hp hq
  · intro q h1 h2
    rw [e j, e q, if_pos rfl, if_neg (by omega)]
    by_cases hq : q = j + 1
    · rw [if_pos hq]; omega
    · rw [if_neg hq]; exact h.low q (by omega) h2
theorem Ins.done {L : List Int} {a i j : Nat} (h : Ins L a i j) (hj : j ≤ i) (ha : a ≤ j) (hs : j = a ∨ nth L ((j - 1 : Nat) : Int) ≤ nth L (j : Int)) : sortedOn L a (i + 1) := by
  intro p q h1 h2 h3
  by_cases hp : p = j
  · subst hp; exact h.low q h2 (by omega)
  · by_cases hq : q = j
    · subst hq
      rcases hs with hs | hs
      · omega
      · by_cases hpj : p = q - 1
        · rw [hpj]; exact hs
        · exact Int.le_trans (h.rest p (q - 1) h1 (by omega) (by omega) (by omega) (by omega)) hs
    · exact h.rest p q h1 h2 (by omega) hp hq
/-- what is sorted and has the same numbers is the same -/
theorem sortedOn_pairwise {L : List Int} (h : sortedOn L 0 L.length) : L.Pairwise (· ≤ ·) := by
  rw [List.pairwise_iff_getElem]
  intro i j hi hj hij
  have := h i j (Nat.zero_le _) hij hj
  rwa [nth_lt _ _ hi, nth_lt _ _ hj] at this
theorem sorted_unique {L L' : List Int} (h : L.Pairwise (· ≤ ·)) (h' : L'.Pairwise (· ≤ ·)) (hp : L.Perm L') : L = L' :=
  hp.eq_of_pairwise (fun a b _ _ h1 h2 => Int.le_antisymm h1 h2) h h'
end Go.HW
