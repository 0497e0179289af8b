import Derived.Test.YtecdgmdkepiopaaHWDraw
set_option linter.unusedSimpArgs false
set_option linter.unusedVariables false
namespace Go.HW
open Go Go.RowKit

/-! ### slices of numbers -/
def nums (k : IntKind) (xs : List Int) : List Value := xs.map (.int k)
def nth (xs : List Int) (i : Int) : Int := xs.getD i.toNat 0
theorem nums_length (k : IntKind) (xs : List Int) : (nums k xs).length = xs.length := by simp [nums]
theorem nums_append (k : IntKind) (xs ys : List Int) : nums k (xs ++ ys) = nums k xs ++ nums k ys := by simp [nums]
theorem nums_nil (k : IntKind) : nums k [] = [] := rfl
theorem nums_set (k : IntKind) (xs : List Int) (i : Nat) (v : Int) : (nums k xs).set i (.int k v) = nums k (xs.set i v) := by simp [nums, List.map_set]
theorem nums_one (k : IntKind) (xs : List Int) : ∀ u ∈ nums k xs, u.oneCell' = true := by
  intro u hu
  simp [nums] at hu
  obtain ⟨a, _, rfl⟩ := hu
  rfl
theorem nums_get (k : IntKind) (xs : List Int) (i : Int) (h0 : 0 ≤ i) (h1 : i < xs.length) : (nums k xs)[i.toNat]? = some (.int k (nth xs i)) := by
  have h : i.toNat < xs.length := by omega
  simp [nums, nth, h]
theorem nth_cast (xs : List Int) (i : Nat) : nth xs (i : Int) = xs.getD i 0 := by simp [nth]
theorem nth_lt (xs : List Int) (i : Nat) (h : i < xs.length) : nth xs (i : Int) = xs[i] := by simp [nth, h]
section
variable {w0 w : World} {M : List Nat} {cs ro : List Ck}
theorem St.rcell (H : St w0 M cs ro w) {A : Option Addr} {l : List Value} {j : Nat} {v : Value} (hm : Has (cells A l) ro) (hv : l[j]? = some v) : w.cell? ⟨aB A, aO A + j, none⟩ = some v :=
  (H.rget hm.mem : Cells w A l).at_ j v hv
theorem St.rnum (H : St w0 M cs ro w) {A : Option Addr} {k : IntKind} {xs : List Int} {i : Int} (hm : Has (cells A (nums k xs)) ro) (h0 : 0 ≤ i) (h1 : i < xs.length) : w.cell? ⟨aB A, aO A + i.toNat * 1, none⟩ = some (.int k (nth xs i)) := by
  rw [Nat.mul_one]; exact H.rcell hm (nums_get k xs i h0 h1)
theorem St.rsome (H : St w0 M cs ro w) {A : Option Addr} {l : List Value} (hm : Has (cells A l) ro) (h1 : 0 < l.length) : A = some ⟨aB A, aO A, none⟩ :=
  (H.rget hm.mem : Cells w A l).some_ (by intro e; subst e; simp at h1)
theorem St.rsomen (H : St w0 M cs ro w) {A : Option Addr} {k : IntKind} {xs : List Int} (hm : Has (cells A (nums k xs)) ro) (h1 : 0 < xs.length) : A = some ⟨aB A, aO A, none⟩ :=
  H.rsome hm (by rw [nums_length]; exact h1)
theorem St.onum (H : St w0 M cs ro w) {A : Option Addr} {c : Nat} {e n : Nat} {k : IntKind} {xs : List Int} {i : Int} (hm : Has (row A c e 1 n (nums k xs)) cs) (h0 : 0 ≤ i) (h1 : i < xs.length) : w.cell? ⟨aB A, aO A + i.toNat * 1, none⟩ = some (.int k (nth xs i)) := by
  rw [Nat.mul_one]; exact (owns_cells (H.get hm.mem)).at_ _ _ (nums_get k xs i h0 h1)
theorem St.osome (H : St w0 M cs ro w) {A : Option Addr} {c : Nat} {e n s : Nat} {l : List Value} (hm : Has (row A c e s n l) cs) (h1 : 0 < l.length) : A = some ⟨aB A, aO A, none⟩ :=
  (owns_cells (H.get hm.mem)).some_ (by intro e; subst e; simp at h1)
theorem St.osomen (H : St w0 M cs ro w) {A : Option Addr} {c : Nat} {e n s : Nat} {k : IntKind} {xs : List Int} (hm : Has (row A c e s n (nums k xs)) cs) (h1 : 0 < xs.length) : A = some ⟨aB A, aO A, none⟩ :=
  H.osome hm (by rw [nums_length]; exact h1)
theorem St.ocells (H : St w0 M cs ro w) {A : Option Addr} {c : Nat} {e n s : Nat} {l : List Value} (hm : Has (row A c e s n l) cs) : Cells w A l := owns_cells (H.get hm.mem)
theorem St.bcells (H : St w0 M cs ro w) {b : Nat} {l : List Value} {T : TypeId} (hm : Has (blk b l T) cs) : Cells w (some ⟨b, 0, none⟩) l := blk_cells (H.get hm.mem)
theorem St.rcells (H : St w0 M cs ro w) {A : Option Addr} {l : List Value} (hm : Has (cells A l) ro) : Cells w A l := H.rget hm.mem
/-- a block known whole becomes a row -/
theorem St.toRow (H : St w0 M cs ro w) {cs' : List Ck} {b : Nat} {l : List Value} {T : TypeId} (n size : Nat) (hA : At (blk b l T) (row (some ⟨b, 0, none⟩) n T size n l) cs cs') (hl : l.length = n * size) (hn : n ≤ maxLen) : St w0 M cs' ro w :=
  H.say hA (fun h => blk_row size n h.r hl hn) (by simp [row, blk])
/-- a nil row -/
theorem St.nilRow (H : St w0 M cs ro w) (T : TypeId) (size : Nat) : St w0 M (row none 0 T size 0 [] :: cs) ro w :=
  H.new (Fr.refl _ _) (row_nil w T size) (by simp [row])
theorem St.startRo {w : World} {ro : List Ck} (h : ∀ c, c ∈ ro → c.ok w) : St w [] [] ro w := St.start [] h
end
theorem append_one {xs : List Int} {k : IntKind} {v : Int} : nums k xs ++ [.int k v] = nums k (xs ++ [v]) := by simp [nums]
theorem take_succ_nth (xs : List Int) (i : Nat) (h : i < xs.length) : xs.take (i + 1) = xs.take i ++ [nth xs (i : Int)] := by
  rw [nth_lt xs i h, List.take_succ_eq_append_getElem h]
end Go.HW
