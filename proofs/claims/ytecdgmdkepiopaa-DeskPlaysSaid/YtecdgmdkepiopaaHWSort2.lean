import Derived.Test.YtecdgmdkepiopaaHWSort
import Derived.Sort.AssemblyPlain
set_option linter.unusedSimpArgs false
set_option linter.unusedVariables false
set_option linter.unusedSectionVars false
namespace Go.HW
open Go Go.Sort
theorem nth_at {d : Array Int} {z : Int} {i : Nat} (h : z = i) : nth d.toList z = d[i]! := by
  subst h
  simp only [nth, Int.toNat_natCast, List.getD_eq_getElem?_getD, Array.getElem?_toList]
  rw [getElem!_def]
  cases d[i]? <;> rfl
theorem nums_setA (k : IntKind) (d : Array Int) (i : Nat) {v u : Int} (h : v = u) : (nums k d.toList).set i (.int k v) = nums k (d.setIfInBounds i u).toList := by
  subst h; rw [nums_set, Array.toList_setIfInBounds]
theorem len_setA (d : Array Int) (i : Nat) (u : Int) : (d.setIfInBounds i u).toList.length = d.toList.length := by simp
theorem len_swp (d : Array Int) (i j : Nat) : (swp d i j).toList.length = d.toList.length := by simp [swp]
theorem lt_yes {d : Array Int} {x y : Int} {i j : Nat} (h : nth d.toList x < nth d.toList y) (hx : x = i) (hy : y = j) : ltInt d[i]! d[j]! = true := by
  rw [nth_at hx, nth_at hy] at h; simp [ltInt, h]
theorem lt_no {d : Array Int} {x y : Int} {i j : Nat} (h : ¬ nth d.toList x < nth d.toList y) (hx : x = i) (hy : y = j) : ltInt d[i]! d[j]! = false := by
  rw [nth_at hx, nth_at hy] at h; simp [ltInt]; omega
theorem swo : SWO ltInt := swo_ltInt
theorem permIn_len {a b : Nat} {d d' : Array Int} (h : PermIn a b d d') : d'.toList.length = d.toList.length := by simpa using h.1
theorem permIn_perm {a b : Nat} {d d' : Array Int} (h : PermIn a b d d') (hb : b ≤ d.size) : d'.toList.Perm d.toList := by
  have h2 := permIn_mono d d' a b 0 d.size (Nat.zero_le _) hb (Nat.le_refl _) h
  have := h2.2.2
  rw [← h2.1, Array.extract_eq_self_of_le (by omega)] at this
  rw [h2.1, Array.extract_eq_self_of_le (by omega)] at this
  exact this
theorem sortedIn_on {a b : Nat} {d : Array Int} (h : SortedIn ltInt a b d) : sortedOn d.toList a b := by
  intro p q h1 h2 h3
  have := h p q h1 h2 h3
  rw [nth_at rfl, nth_at rfl]
  simp [ltInt] at this
  exact this
/-! ### one step of each loop -/
theorem insInner_go {a j : Nat} {d : Array Int} (h1 : a < j + 1) (h2 : ltInt d[j + 1]! d[j]! = true) : insInner ltInt a (j + 1) d = insInner ltInt a j (swp d (j + 1) j) := by
  rw [insInner]; simp [h1, h2]
theorem insInner_low {a j : Nat} {d : Array Int} (h1 : j ≤ a) : insInner ltInt a j d = d := by
  cases j with
  | zero => rfl
  | succ j => rw [insInner]; simp [show ¬ a < j + 1 by omega]
theorem insInner_stop {a j : Nat} {d : Array Int} (h2 : ltInt d[j + 1]! d[j]! = false) : insInner ltInt a (j + 1) d = d := by
  rw [insInner]; simp [h2]
theorem insOuter_go {a b i : Nat} {d : Array Int} (h : i < b) : insOuter ltInt a b i d = insOuter ltInt a b (i + 1) (insInner ltInt a i d) := by rw [insOuter, if_pos h]
theorem insOuter_end {a b i : Nat} {d : Array Int} (h : ¬ i < b) : insOuter ltInt a b i d = d := by rw [insOuter, if_neg h]
theorem sift_end {hi first root : Nat} {d : Array Int} (h : 2 * root + 1 ≥ hi) : Sort.siftDown ltInt hi first root d = d := by rw [Sort.siftDown, dif_pos h]
theorem sift_two {hi first root ch : Nat} {d : Array Int} (h : ch = 2 * root + 2) (h1 : ch < hi) (h2 : ltInt d[first + (2 * root + 1)]! d[first + (2 * root + 1) + 1]! = true) :
    Sort.siftDown ltInt hi first root d = if ltInt d[first + root]! d[first + ch]! then Sort.siftDown ltInt hi first ch (swp d (first + root) (first + ch)) else d := by
  subst h
  rw [Sort.siftDown, dif_neg (by omega), if_pos (by simp [h2]; omega)]
  by_cases h3 : ltInt d[first + root]! d[first + (2 * root + 2)]! = true
  · simp [h3, h1]
  · simp [h3]
theorem sift_one {hi first root ch : Nat} {d : Array Int} (h : ch = 2 * root + 1) (h1 : ch < hi) (h2 : ¬ (2 * root + 1 + 1 < hi ∧ ltInt d[first + (2 * root + 1)]! d[first + (2 * root + 1) + 1]! = true)) :
    Sort.siftDown ltInt hi first root d = if ltInt d[first + root]! d[first + ch]! then Sort.siftDown ltInt hi first ch (swp d (first + root) (first + ch)) else d := by
  subst h
  rw [Sort.siftDown, dif_neg (by omega), if_neg (by simpa using h2)]
  by_cases h3 : ltInt d[first + root]! d[first + (2 * root + 1)]! = true
  · simp [h3]
  · simp [h3]
theorem sift_len (hi first : Nat) : ∀ (n root : Nat) (d : Array Int), hi - root ≤ n → (Sort.siftDown ltInt hi first root d).toList.length = d.toList.length := by
  intro n
  induction n with
  | zero => intro root d h; rw [sift_end (by omega)]
  | succ n ih =>
    intro root d h
    by_cases h1 : 2 * root + 1 ≥ hi
    · rw [sift_end h1]
    · by_cases h2 : 2 * root + 1 + 1 < hi ∧ ltInt d[first + (2 * root + 1)]! d[first + (2 * root + 1) + 1]! = true
      · rw [sift_two rfl (by omega) h2.2]
        split
        · rw [ih _ _ (by omega), len_swp]
        · rfl
      · rw [sift_one rfl (by omega) h2]
        split
        · rw [ih _ _ (by omega), len_swp]
        · rfl
theorem scanUp_go {p : Int → Bool} {d : Array Int} {j i : Nat} (h : i ≤ j) (h2 : p d[i]! = true) : scanUp p d j i = scanUp p d j (i + 1) := by rw [scanUp]; simp [h, h2]
theorem scanUp_end {p : Int → Bool} {d : Array Int} {j i : Nat} (h : ¬ i ≤ j ∨ p d[i]! = false) : scanUp p d j i = i := by
  rw [scanUp]; rcases h with h | h <;> simp [h]
theorem scanDown_go {p : Int → Bool} {d : Array Int} {j i : Nat} (h : i ≤ j + 1) (h2 : p d[j + 1]! = true) : scanDown p d i (j + 1) = scanDown p d i j := by rw [scanDown]; simp [h, h2]
theorem scanDown_end {p : Int → Bool} {d : Array Int} {j i : Nat} (h0 : 0 < i) (h : ¬ i ≤ j ∨ p d[j]! = false) : scanDown p d i j = j := by
  cases j with
  | zero => rfl
  | succ j => rw [scanDown]; rcases h with h | h <;> simp [h]
theorem scanSorted_go {d : Array Int} {b i : Nat} (h : i < b) (h2 : ltInt d[i]! d[i - 1]! = false) : scanSorted ltInt d b i = scanSorted ltInt d b (i + 1) := by rw [scanSorted]; simp [h, h2]
theorem scanSorted_end {d : Array Int} {b i : Nat} (h : ¬ i < b ∨ ltInt d[i]! d[i - 1]! = true) : scanSorted ltInt d b i = i := by
  rw [scanSorted]; rcases h with h | h <;> simp [h]
theorem shiftDown_go {j : Nat} {d : Array Int} (h : ltInt d[j + 1]! d[j]! = true) : shiftDown ltInt (j + 1) d = shiftDown ltInt j (swp d (j + 1) j) := by rw [shiftDown]; simp [h]
theorem shiftDown_end {j : Nat} {d : Array Int} (h : ltInt d[j + 1]! d[j]! = false) : shiftDown ltInt (j + 1) d = d := by rw [shiftDown]; simp [h]
theorem shiftUp_go {b j : Nat} {d : Array Int} (h : j < b) (h2 : ltInt d[j]! d[j - 1]! = true) : shiftUp ltInt b j d = shiftUp ltInt b (j + 1) (swp d j (j - 1)) := by rw [shiftUp]; simp [h, h2]
theorem shiftUp_end {b j : Nat} {d : Array Int} (h : ¬ j < b ∨ ltInt d[j]! d[j - 1]! = false) : shiftUp ltInt b j d = d := by
  rw [shiftUp]; rcases h with h | h <;> simp [h]
theorem rev_go {i j : Nat} {d : Array Int} (h : i < j) : reverseLoop i j d = reverseLoop (i + 1) (j - 1) (swp d i j) := by rw [reverseLoop, if_pos h]
theorem rev_end {i j : Nat} {d : Array Int} (h : ¬ i < j) : reverseLoop i j d = d := by rw [reverseLoop, if_neg h]
end Go.HW
namespace Go.HW
open Go Go.Sort
theorem bits_and_u64 {x y : Int} (h0 : 0 ≤ y) (h1 : y < 18446744073709551616) : 0 ≤ bits .and .u64 x y ∧ bits .and .u64 x y ≤ y := by
  have e : bits .and .u64 x y = ((BitVec.ofInt 64 x &&& BitVec.ofInt 64 y).toNat : Int) := by
    unfold bits
    have := (BitVec.ofInt 64 x &&& BitVec.ofInt 64 y).isLt
    show IntKind.u64.wrap _ = _
    exact u64_in (by omega) (by show ((BitVec.ofInt 64 x &&& BitVec.ofInt 64 y).toNat : Int) ≤ _; omega)
  have hy : (BitVec.ofInt 64 y).toNat = y.toNat := by
    rw [BitVec.toNat_ofInt]
    have : y % ((2 ^ 64 : Nat) : Int) = y := Int.emod_eq_of_lt h0 (by simpa using h1)
    rw [this]
  have hle : (BitVec.ofInt 64 x &&& BitVec.ofInt 64 y).toNat ≤ (BitVec.ofInt 64 y).toNat := by
    rw [BitVec.toNat_and]; exact Nat.and_le_right
  rw [e]
  omega
/-- what math/bits.Len gives -/
def LenOk (x v : Int) : Prop := 0 ≤ v ∧ v ≤ 64 ∧ (0 < x → ∃ k : Nat, v = (k : Int) + 1 ∧ (2 : Int) ^ k ≤ x)
theorem len_shift {x v : Int} {k : Nat} (hk : k ≤ 56) (h : 0 ≤ v ∧ v ≤ 8 ∧ (0 < x / 2 ^ k → ∃ m : Nat, v = (m : Int) + 1 ∧ (2 : Int) ^ m ≤ x / 2 ^ k)) (hx : 0 < x / 2 ^ k) : LenOk x (k + v) := by
  obtain ⟨h1, h2, h3⟩ := h
  obtain ⟨m, rfl, hm⟩ := h3 hx
  refine ⟨by omega, by omega, fun _ => ⟨k + m, by omega, ?_⟩⟩
  rw [Int.pow_add]
  have hp : (0 : Int) < 2 ^ k := Int.pow_pos (by decide)
  calc (2 : Int) ^ k * 2 ^ m ≤ 2 ^ k * (x / 2 ^ k) := Int.mul_le_mul_of_nonneg_left hm (by omega)
    _ ≤ x := Int.mul_ediv_self_le (by omega)
end Go.HW
namespace Go.HW
open Go Go.Sort
def tabOk (i t : Nat) : Bool := Nat.ble t 8 && (Nat.beq i 0 || (Nat.ble 1 t && Nat.ble (2 ^ (t - 1)) i))
theorem wrap_small {v : Int} (h0 : 0 ≤ v) (h1 : v ≤ 1000) : IntKind.i64.wrap v = v := i64_in (by omega) (by omega)
theorem len_fin {s : ByteArray} (hs : (List.range 256).all (fun i => tabOk i ((s[i]?.getD 0).toNat)) = true) {x y : Int} {k : Nat} (hk : k ≤ 56) (hy : y = x / 2 ^ k) (h0 : 0 ≤ y) (h1 : y < 256) (hpos : 0 < x → 0 < y) :
    LenOk x (IntKind.i64.wrap (k + IntKind.i64.wrap ((s[y.toNat]?.getD 0).toNat : Int))) := by
  have h := List.all_eq_true.1 hs y.toNat (by simp; omega)
  generalize (s[y.toNat]?.getD 0).toNat = t at h ⊢
  simp only [tabOk, Bool.and_eq_true, Bool.or_eq_true, Nat.ble_eq, Nat.beq_eq] at h
  obtain ⟨h8, h9⟩ := h
  rw [wrap_small (v := (t : Int)) (by omega) (by omega), wrap_small (by omega) (by omega)]
  by_cases hx : 0 < x
  · have hyp := hpos hx
    refine len_shift (x := x) (k := k) hk ⟨by omega, by omega, fun _ => ?_⟩ (by rw [← hy]; exact hyp)
    rcases h9 with h9 | ⟨h9, h10⟩
    · omega
    · refine ⟨t - 1, by omega, ?_⟩
      rw [← hy]
      have : ((2 ^ (t - 1) : Nat) : Int) ≤ (y.toNat : Int) := by exact_mod_cast h10
      rw [Int.natCast_pow] at this
      have e : ((y.toNat : Nat) : Int) = y := by omega
      rw [e] at this
      exact this
  · exact ⟨by omega, by omega, fun h => absurd h hx⟩
theorem shr_div {x : Int} {m k : Nat} (h : m = k) : x.fdiv (2 ^ m) = x / 2 ^ k := by
  subst h; exact Int.fdiv_eq_ediv_of_nonneg _ (Int.le_of_lt (Int.pow_pos (by decide)))
theorem div_pow_add {x : Int} {k m : Nat} : x / 2 ^ k / 2 ^ m = x / 2 ^ (k + m) := by
  rw [Int.ediv_ediv_of_nonneg (Int.le_of_lt (Int.pow_pos (by decide))), ← Int.pow_add]
theorem nextpow {x v : Int} (hx : 0 < x) (hx1 : x ≤ 4611686018427387904) (h : LenOk x v) : 1 ≤ IntKind.u64.wrap (1 * 2 ^ min v.toNat (IntKind.bits .u64)) ∧ IntKind.u64.wrap (1 * 2 ^ min v.toNat (IntKind.bits .u64)) ≤ 2 * x := by
  obtain ⟨h0, h1, h2⟩ := h
  obtain ⟨k, rfl, hk⟩ := h2 hx
  have hk62 : k ≤ 62 := by
    rcases Nat.lt_or_ge 62 k with hh | hh
    · have : (2 : Int) ^ 63 ≤ 2 ^ k := by
        have := Nat.pow_le_pow_right (n := 2) (by decide) (show 63 ≤ k by omega)
        exact_mod_cast this
      have e : (2 : Int) ^ 63 = 9223372036854775808 := by decide
      omega
    · exact hh
  have e1 : min ((k : Int) + 1).toNat (IntKind.bits .u64) = k + 1 := by
    show min _ 64 = _
    omega
  rw [e1, Int.one_mul]
  have hp : (0 : Int) < 2 ^ k := Int.pow_pos (by decide)
  have e2 : (2 : Int) ^ (k + 1) = 2 * 2 ^ k := by rw [Int.pow_succ]; omega
  rw [u64_in (by omega) (by omega)]
  omega
/-! ### the partitions -/
theorem part_one {d M : Array Int} {a b pivot i j : Nat} (hM : M = swp d a pivot) (hi : i = scanUp (fun x => ltInt x M[a]!) M (b - 1) (a + 1)) (hj : j = scanDown (fun x => !ltInt x M[a]!) M i (b - 1)) (h : i > j) : partition ltInt d a b pivot = (j, true, swp M j a) := by
  subst hM
  unfold partition
  simp only [← hi, ← hj, if_pos h]
theorem part_two {d M D : Array Int} {a b pivot i j r : Nat} (hM : M = swp d a pivot) (hi : i = scanUp (fun x => ltInt x M[a]!) M (b - 1) (a + 1)) (hj : j = scanDown (fun x => !ltInt x M[a]!) M i (b - 1)) (h : ¬ i > j) (hl : partLoop ltInt a (i + 1) (j - 1) (swp M i j) = (r, D)) :
    partition ltInt d a b pivot = (r, false, swp D r a) := by
  subst hM
  unfold partition
  simp only [← hi, ← hj, if_neg h, hl]
theorem partLoop_stop {a i j i2 j2 : Nat} {d : Array Int} (hi : i2 = scanUp (fun x => ltInt x d[a]!) d j i) (hj : j2 = scanDown (fun x => !ltInt x d[a]!) d i2 j) (h : i2 > j2) : partLoop ltInt a i j d = (j2, d) := by
  subst hi; subst hj; rw [partLoop_eq, if_pos h]
theorem partLoop_go {a i j i2 j2 : Nat} {d : Array Int} (hi : i2 = scanUp (fun x => ltInt x d[a]!) d j i) (hj : j2 = scanDown (fun x => !ltInt x d[a]!) d i2 j) (h : ¬ i2 > j2) : partLoop ltInt a i j d = partLoop ltInt a (i2 + 1) (j2 - 1) (swp d i2 j2) := by
  subst hi; subst hj; rw [partLoop_eq, if_neg h]
theorem partEqLoop_stop {a i j i2 j2 : Nat} {d : Array Int} (hi : i2 = scanUp (fun x => !ltInt d[a]! x) d j i) (hj : j2 = scanDown (fun x => ltInt d[a]! x) d i2 j) (h : i2 > j2) : partEqLoop ltInt a i j d = (i2, d) := by
  subst hi; subst hj; rw [partEqLoop_eq, if_pos h]
theorem partEqLoop_go {a i j i2 j2 : Nat} {d : Array Int} (hi : i2 = scanUp (fun x => !ltInt d[a]! x) d j i) (hj : j2 = scanDown (fun x => ltInt d[a]! x) d i2 j) (h : ¬ i2 > j2) : partEqLoop ltInt a i j d = partEqLoop ltInt a (i2 + 1) (j2 - 1) (swp d i2 j2) := by
  subst hi; subst hj; rw [partEqLoop_eq, if_neg h]
theorem insS_good (d : Array Int) (a b : Nat) (h : a ≤ b) (hb : b ≤ d.size) : PermIn a b d (insertionSort ltInt d a b) ∧ SortedIn ltInt a b (insertionSort ltInt d a b) := insertionSort_holds swo d a b h hb
theorem heap_good (d : Array Int) (a b : Nat) (h : a ≤ b) (hb : b ≤ d.size) : PermIn a b d (heapSort ltInt d a b) ∧ SortedIn ltInt a b (heapSort ltInt d a b) := heapSort_holds swo d a b h hb
theorem size_of {d : Array Int} {n : Nat} (h : d.toList.length = n) : d.size = n := by simpa using h
/-- whatever sorted permutation of the part comes back, the whole is one -/
def Glue (a b : Nat) (d : Array Int) (a' b' : Nat) (M : Array Int) : Prop := ∀ D, PermIn a' b' M D → SortedIn ltInt a' b' D → PermIn a b d D ∧ SortedIn ltInt a b D
theorem Glue.perm {a b a' b' : Nat} {d M M2 : Array Int} (h : Glue a b d a' b' M) (hp : PermIn a' b' M M2) : Glue a b d a' b' M2 := fun D h1 h2 => h D (permIn_trans _ _ _ _ _ hp h1) h2
theorem rev_good (d : Array Int) (a b : Nat) (h : a ≤ b) (hb : b ≤ d.size) : PermIn a b d (reverseRange d a b) := reverseRange_holds d a b h hb
theorem pins_good (d : Array Int) (a b : Nat) (h : a < b) (hb : b ≤ d.size) (hB : Sort.Below ltInt a b d) : PermIn a b d (partialInsertionSort ltInt d a b).1 ∧ ((partialInsertionSort ltInt d a b).2 = true → SortedIn ltInt a b (partialInsertionSort ltInt d a b).1) := partialInsertionSort_holds swo d a b h hb hB
theorem peq_good {a b a0 b0 p : Nat} {d M : Array Int} (hG : Glue a b d a0 b0 M) (ha0 : 0 < a0) (hp1 : a0 ≤ p) (hp2 : p < b0) (hb : b0 ≤ M.size) (hB : Sort.Below ltInt a0 b0 M) (hnl : ltInt M[a0 - 1]! M[p]! = false) :
    a0 < (partitionEqual ltInt M a0 b0 p).1 ∧ (partitionEqual ltInt M a0 b0 p).1 ≤ b0 ∧ (partitionEqual ltInt M a0 b0 p).2.size = M.size ∧ Sort.Below ltInt (partitionEqual ltInt M a0 b0 p).1 b0 (partitionEqual ltInt M a0 b0 p).2 ∧ Glue a b d (partitionEqual ltInt M a0 b0 p).1 b0 (partitionEqual ltInt M a0 b0 p).2 := by
  obtain ⟨h1, h2, h3, h4, h5⟩ := round_eq swo (partitionEqual_holds ltInt) ha0 hp1 hp2 hb hB hnl (show partitionEqual ltInt M a0 b0 p = ((partitionEqual ltInt M a0 b0 p).1, (partitionEqual ltInt M a0 b0 p).2) from rfl)
  exact ⟨h1, h2, h3, h4, fun D hD hs => by obtain ⟨q1, q2⟩ := h5 D hD hs; exact hG D q1 q2⟩
theorem part_good {a b a0 b0 p : Nat} {d M : Array Int} (hG : Glue a b d a0 b0 M) (hp1 : a0 ≤ p) (hp2 : p < b0) (hb : b0 ≤ M.size) (hB : Sort.Below ltInt a0 b0 M) :
    ∃ mid ap D, partition ltInt M a0 b0 p = (mid, ap, D) ∧ a0 ≤ mid ∧ mid < b0 ∧ D.size = M.size ∧ Sort.Below ltInt a0 mid D ∧ Sort.Below ltInt (mid + 1) b0 D ∧
    (∀ L, PermIn a0 mid D L → SortedIn ltInt a0 mid L → Sort.Below ltInt (mid + 1) b0 L ∧ Glue a b d (mid + 1) b0 L) ∧
    (∀ L, PermIn (mid + 1) b0 D L → SortedIn ltInt (mid + 1) b0 L → Sort.Below ltInt a0 mid L ∧ Glue a b d a0 mid L) := by
  obtain ⟨h1, h2, h3, h4, h5, h6, h7⟩ := round_part swo (partition_holds ltInt) hp1 hp2 hb hB (show partition ltInt M a0 b0 p = ((partition ltInt M a0 b0 p).1, (partition ltInt M a0 b0 p).2.1, (partition ltInt M a0 b0 p).2.2) from rfl)
  refine ⟨_, _, _, rfl, h1, h2, h3, h4, h5, fun L q1 q2 => ?_, fun L q1 q2 => ?_⟩
  · obtain ⟨q3, q4⟩ := h6 L q1 q2
    exact ⟨q3, fun D hD hs => by obtain ⟨q5, q6⟩ := q4 D hD hs; exact hG D q5 q6⟩
  · obtain ⟨q3, q4⟩ := h7 L q1 q2
    exact ⟨q3, fun D hD hs => by obtain ⟨q5, q6⟩ := q4 D hD hs; exact hG D q5 q6⟩
end Go.HW
namespace Go.HW
open Go Go.Sort
theorem shiftDown_len : ∀ (j : Nat) (d : Array Int), (shiftDown ltInt j d).toList.length = d.toList.length
  | 0, d => rfl
  | j + 1, d => by
    cases h : ltInt d[j + 1]! d[j]! with
    | false => rw [shiftDown_end h]
    | true => rw [shiftDown_go h, shiftDown_len j, len_swp]
theorem pins_true {a b i s : Nat} {d : Array Int} (h : scanSorted ltInt d b i = b) : partialIns ltInt a b (s + 1) i d = (d, true) := by rw [partialIns_succ, if_pos h]
theorem pins_false {a b i s : Nat} {d : Array Int} (h : ¬ scanSorted ltInt d b i = b) (h2 : b - a < 50) : partialIns ltInt a b (s + 1) i d = (d, false) := by rw [partialIns_succ, if_neg h, if_pos h2]
theorem pins_go {a b i s i2 : Nat} {d : Array Int} (hi : i2 = scanSorted ltInt d b i) (h : ¬ i2 = b) (h2 : ¬ b - a < 50) : partialIns ltInt a b (s + 1) i d = partialIns ltInt a b s i2 (fixUp ltInt b i2 (fixDown ltInt a i2 (swp d i2 (i2 - 1)))) := by
  subst hi; rw [partialIns_succ, if_neg h, if_neg h2]
end Go.HW
namespace Go.HW
open Go Go.Sort
theorem lt_nyes {d : Array Int} {x y : Int} {i j : Nat} (h : ¬ nth d.toList x < nth d.toList y) (hx : x = i) (hy : y = j) : (!ltInt d[i]! d[j]!) = true := by rw [lt_no h hx hy]; rfl
theorem lt_nno {d : Array Int} {x y : Int} {i j : Nat} (h : nth d.toList x < nth d.toList y) (hx : x = i) (hy : y = j) : (!ltInt d[i]! d[j]!) = false := by rw [lt_yes h hx hy]; rfl
end Go.HW
