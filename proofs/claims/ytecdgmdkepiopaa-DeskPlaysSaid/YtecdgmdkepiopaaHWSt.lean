import Derived.Test.YtecdgmdkepiopaaHWBase
import Derived.Laws.AppendOwn
import Derived.Laws.BytesArg
import Derived.Laws.OwnMore
set_option linter.unusedSimpArgs false
set_option linter.unusedVariables false
namespace Go.HW
open Go Go.RowKit

/-! ### What has turned: the blocks of M alone -/
structure Fr (M : List Nat) (w w' : World) : Prop where
  os : w'.os = w.os
  tape : w'.tape = w.tape
  output : w'.output = w.output
  size : w.heap.size ≤ w'.heap.size
  block : ∀ b, b < w.heap.size → b ∉ M → w'.heap[b]? = w.heap[b]?
theorem Fr.refl (M : List Nat) (w : World) : Fr M w w := ⟨rfl, rfl, rfl, Nat.le_refl _, fun _ _ _ => rfl⟩
theorem Fr.mono {M M' : List Nat} {w w' : World} (h : Fr M w w') (hm : ∀ b, b ∈ M → b ∈ M' ∨ w.heap.size ≤ b) : Fr M' w w' :=
  ⟨h.os, h.tape, h.output, h.size, fun b hb hn => h.block b hb fun hm' => (hm b hm').elim hn (by omega)⟩
/-- a step that turns the blocks of M', those of M and new ones -/
theorem Fr.trans {M M' : List Nat} {w0 w w' : World} (h : Fr M w0 w) (k : Fr M' w w') (hm : ∀ b, b ∈ M' → b ∈ M ∨ w0.heap.size ≤ b) : Fr M w0 w' :=
  ⟨k.os.trans h.os, k.tape.trans h.tape, k.output.trans h.output, Nat.le_trans h.size k.size, fun b hb hn =>
    (k.block b (Nat.lt_of_lt_of_le hb h.size) fun hm' => (hm b hm').elim hn (by omega)).trans (h.block b hb hn)⟩
theorem Fr.below {w w' : World} (h : Fr [] w w') : Below w.heap.size w w' := ⟨h.os, h.tape, h.output, h.size, fun b hb => h.block b hb (by simp)⟩
theorem Fr.ofBelow {w w' : World} (h : Below w.heap.size w w') (M : List Nat) : Fr M w w' := ⟨h.os, h.tape, h.output, h.size, fun b hb _ => h.block b hb⟩
theorem Fr.grown {w w' : World} {row : Option Nat} (h : w.grownBy w' row) : Fr row.toList w w' := ⟨h.os, h.tape, h.output, h.size, fun b hb hn => h.block b hb (by cases row <;> simp_all)⟩
theorem Fr.drew (w : World) : Fr [] w w.drew := ⟨rfl, rfl, rfl, Nat.le_refl _, fun _ _ _ => rfl⟩
-- theorem Fr.drewN (w : World) (n : Nat) : Fr [] w (w.drewN n) := ⟨rfl, rfl, rfl, Nat.le_refl _, fun _ _ _ => rfl⟩
theorem Fr.alloc (w : World) (o : Obj) : Fr [] w (w.alloc o) := ⟨rfl, rfl, rfl, by simp, fun b hb _ => Below.heap_alloc w o b hb⟩
theorem Fr.setCell (w : World) (a : Addr) (v : Value) : Fr [a.block] w (w.setCell a v) :=
  ⟨rfl, rfl, rfl, by simp [World.setCell], fun b _ hn => Below.heap_setCell w a v b (by simpa using hn)⟩

/-! ### A piece of memory -/
structure Ck where
  fp : List Nat
  R : World → Prop
  loc : ∀ w w' : World, (∀ b, b ∈ fp → w'.heap[b]? = w.heap[b]?) → R w → R w'
/-- It holds, and its blocks are there. -/
structure Ck.ok (c : Ck) (w : World) : Prop where
  r : c.R w
  lt : ∀ b, b ∈ c.fp → b < w.heap.size
theorem Ck.ok.keep {c : Ck} {w w' : World} {M : List Nat} (h : c.ok w) (hf : Fr M w w') (hd : ∀ b, b ∈ c.fp → b ∉ M) : c.ok w' :=
  ⟨c.loc w w' (fun b hb => hf.block b (h.lt b hb) (hd b hb)) h.r, fun b hb => Nat.lt_of_lt_of_le (h.lt b hb) hf.size⟩

def Blk (w : World) (b : Nat) (l : List Value) (T : TypeId) : Prop := w.heap[b]? = some (.cells l.toArray T (0, 0))
/-- a block known whole -/
def blk (b : Nat) (l : List Value) (T : TypeId) : Ck := ⟨[b], fun w => Blk w b l T, fun w w' h hb => by unfold Blk at *; rw [h b (by simp)]; exact hb⟩
theorem Blk.lt {w : World} {b : Nat} {l : List Value} {T : TypeId} (h : Blk w b l T) : b < w.heap.size := (Array.getElem?_eq_some_iff.1 h).1
theorem blk_ok {w : World} {b : Nat} {l : List Value} {T : TypeId} (h : Blk w b l T) : (blk b l T).ok w := ⟨h, fun b' hb => by simp [blk] at hb; subst hb; exact h.lt⟩

def aB (A : Option Addr) : Nat := (A.getD ⟨0, 0, none⟩).block
def aO (A : Option Addr) : Nat := (A.getD ⟨0, 0, none⟩).off
/-- cells that are read -/
structure Cells (w : World) (A : Option Addr) (l : List Value) : Prop where
  at_ : ∀ j v, l[j]? = some v → w.cell? ⟨aB A, aO A + j, none⟩ = some v
  some_ : l ≠ [] → A = some ⟨aB A, aO A, none⟩
theorem Cells.nil (w : World) (A : Option Addr) : Cells w A [] := ⟨by simp, by simp⟩
theorem cell?_keep {w w' : World} {b o : Nat} (h : w'.heap[b]? = w.heap[b]?) : w'.cell? ⟨b, o, none⟩ = w.cell? ⟨b, o, none⟩ := by simp [World.cell?, h]
/-- the cells of a slice that is only read -/
def cells (A : Option Addr) (l : List Value) : Ck :=
  ⟨if l = [] then [] else [aB A], fun w => Cells w A l, fun w w' h hc => ⟨fun j v hj => by
    rw [cell?_keep (h (aB A) (by
      rw [if_neg (by intro e; subst e; simp at hj)]
      simp))]
    exact hc.at_ j v hj, hc.some_⟩⟩
theorem cells_ok {w : World} {A : Option Addr} {l : List Value} (h : Cells w A l) : (cells A l).ok w := ⟨h, fun b hb => by
  simp only [cells] at hb
  split at hb
  · simp at hb
  · rename_i hl
    simp at hb
    subst hb
    cases l with
    | nil => exact absurd rfl hl
    | cons v l => exact World.block_lt_of_cell? w ⟨aB A, aO A + 0, none⟩ (h.at_ 0 v (by simp))⟩

/-- a slice of the call's own: its cells, and room behind -/
def row (A : Option Addr) (c : Nat) (e : TypeId) (size n : Nat) (xs : List Value) : Ck :=
  ⟨A.toList.map (·.block), fun w => w.ownsRow 0 e size (.slice A n c) n xs, fun w w' h ho => by
    obtain ⟨h1, h2⟩ := ho
    refine ⟨h1, ?_⟩
    rcases h2 with h2 | ⟨g, cap, cur, he, hb, hg, r⟩
    · exact .inl h2
    · refine .inr ⟨g, cap, cur, he, hb, ?_, r⟩
      simp only [Value.slice.injEq] at he
      rw [h g (by simp [he.1])]; exact hg⟩
theorem row_ok {w : World} {A : Option Addr} {c : Nat} {e : TypeId} {size n : Nat} {xs : List Value} (h : w.ownsRow 0 e size (.slice A n c) n xs) : (row A c e size n xs).ok w :=
  ⟨h, fun b hb => by
    have := h.lt b (by simp [row] at hb; cases A <;> simp_all [Value.ownBlock])
    exact this.2⟩
theorem row_nil (w : World) (e : TypeId) (size : Nat) : (row none 0 e size 0 []).ok w := row_ok (World.ownsRow_nil w 0 e size)
theorem owns_len {w : World} {A : Option Addr} {c : Nat} {e : TypeId} {size n : Nat} {xs : List Value} (h : w.ownsRow 0 e size (.slice A n c) n xs) : n ≤ c ∧ c ≤ maxLen ∧ xs.length = n * size := by
  rcases h.2 with ⟨he, h0⟩ | ⟨g, cap, cur, he, _, _, h1, h2, _⟩
  · simp only [Value.slice.injEq] at he
    exact ⟨by omega, by rw [he.2.2]; exact Nat.zero_le _, h.1⟩
  · simp only [Value.slice.injEq] at he
    exact ⟨by omega, by omega, h.1⟩
theorem owns_cells {w : World} {A : Option Addr} {c : Nat} {e : TypeId} {size n : Nat} {xs : List Value} (h : w.ownsRow 0 e size (.slice A n c) n xs) : Cells w A xs := by
  rcases h.2 with ⟨he, h0⟩ | ⟨g, cap, cur, he, _, hg, _, _, _, ht⟩
  · simp only [Value.slice.injEq] at he
    have : xs = [] := by have := h.1; rw [h0] at this; simpa using this
    subst this
    exact Cells.nil w A
  · simp only [Value.slice.injEq] at he
    obtain ⟨rfl, _, _⟩ := he
    refine ⟨fun j v hj => ?_, fun _ => rfl⟩
    have := h.cells (g := g) rfl j v hj
    simpa [aB, aO, Addr.add_lit] using this
theorem row_cells {w : World} {A : Option Addr} {c : Nat} {e : TypeId} {size n : Nat} {xs : List Value} (h : (row A c e size n xs).ok w) : (cells A xs).ok w := cells_ok (owns_cells h.r)
theorem cells_fp {A : Option Addr} {c : Nat} {e : TypeId} {size n : Nat} {xs : List Value} {w : World} (h : Cells w A xs) : ∀ b, b ∈ (cells A xs).fp → b ∈ (row A c e size n xs).fp := by
  intro b hb
  simp only [cells] at hb
  split at hb
  · simp at hb
  · rename_i hx
    have := h.some_ hx
    simp at hb
    subst hb
    simp only [row]
    rw [this]
    simp [aB]
/-- a slice's cells in a block known whole -/
theorem blk_row {w : World} {b : Nat} {l : List Value} {T : TypeId} (size n : Nat) (h : Blk w b l T) (hl : l.length = n * size) (hn : n ≤ maxLen) : (row (some ⟨b, 0, none⟩) n T size n l).ok w :=
  row_ok ⟨hl, .inr ⟨b, n, l.toArray, rfl, Nat.zero_le _, h, Nat.le_refl _, hn, by simpa using hl, by simp [← hl]⟩⟩
theorem blk_cells {w : World} {b : Nat} {l : List Value} {T : TypeId} (h : Blk w b l T) : Cells w (some ⟨b, 0, none⟩) l :=
  ⟨fun j v hj => by unfold Blk at h; simp [aB, aO, World.cell?, h, hj], fun _ => rfl⟩

/-! ### The state: pieces that are the call's (they may be written), and pieces that are read -/
structure St (w0 : World) (M : List Nat) (cs ro : List Ck) (w : World) : Prop where
  fr : Fr M w0 w
  ok : ∀ c, c ∈ cs → c.ok w
  rok : ∀ c, c ∈ ro → c.ok w
  own : ∀ c, c ∈ cs → ∀ b, b ∈ c.fp → b ∈ M ∨ w0.heap.size ≤ b
  apart : cs.Pairwise fun c d => ∀ b, b ∈ c.fp → b ∉ d.fp
  rapart : ∀ c, c ∈ cs → ∀ d, d ∈ ro → ∀ b, b ∈ c.fp → b ∉ d.fp

theorem St.start {w : World} {ro : List Ck} (M : List Nat) (h : ∀ c, c ∈ ro → c.ok w) : St w M [] ro w :=
  ⟨Fr.refl _ _, by simp, h, by simp, List.Pairwise.nil, by simp⟩

/-- Where c stands in cs, and the list with c' in its place. -/
inductive At (c c' : Ck) : List Ck → List Ck → Prop where
  | zero {t} : At c c' (c :: t) (c' :: t)
  | succ {x t t'} : At c c' t t' → At c c' (x :: t) (x :: t')
theorem At.mem {c c' : Ck} {cs cs' : List Ck} (h : At c c' cs cs') : c ∈ cs := by
  induction h with
  | zero => simp
  | succ _ ih => simp [ih]
theorem At.mem' {c c' : Ck} {cs cs' : List Ck} (h : At c c' cs cs') : ∀ d, d ∈ cs' → d = c' ∨ d ∈ cs := by
  induction h with
  | zero => intro d hd; simp at hd; rcases hd with rfl | hd <;> simp_all
  | succ _ ih => intro d hd; simp at hd; rcases hd with rfl | hd
                 · simp
                 · rcases ih d hd with h | h <;> simp_all
/-- The pieces of cs but c are apart from c. -/
theorem At.split {c c' : Ck} {cs cs' : List Ck} (h : At c c' cs cs') : ∃ a b, cs = a ++ c :: b ∧ cs' = a ++ c' :: b := by
  induction h with
  | @zero t => exact ⟨[], t, rfl, rfl⟩
  | @succ x t t' _ ih => obtain ⟨a, b, rfl, rfl⟩ := ih; exact ⟨x :: a, b, rfl, rfl⟩

section
variable {w0 w w' : World} {M : List Nat} {cs ro : List Ck}
theorem St.get {c : Ck} (H : St w0 M cs ro w) (h : c ∈ cs) : c.R w := (H.ok c h).r
theorem St.rget {c : Ck} (H : St w0 M cs ro w) (h : c ∈ ro) : c.R w := (H.rok c h).r
/-- A step that turns nothing of what is known. -/
theorem St.quiet (H : St w0 M cs ro w) (hf : Fr [] w w') : St w0 M cs ro w' :=
  ⟨H.fr.trans hf (by simp), fun c hc => (H.ok c hc).keep hf (by simp), fun c hc => (H.rok c hc).keep hf (by simp), H.own, H.apart, H.rapart⟩
/-- A step that turns c's blocks alone, and leaves c' there (its blocks: c's, or new ones). -/
theorem St.turn {c c' : Ck} {cs' : List Ck} {M' : List Nat} (H : St w0 M cs ro w) (hA : At c c' cs cs') (hf : Fr M' w w') (hM : ∀ b, b ∈ M' → b ∈ c.fp ∨ w.heap.size ≤ b) (hok : c'.ok w')
    (hfp : ∀ b, b ∈ c'.fp → b ∈ c.fp ∨ w.heap.size ≤ b) : St w0 M cs' ro w' := by
  obtain ⟨a, b, rfl, rfl⟩ := hA.split
  have hap := H.apart
  rw [List.pairwise_append, List.pairwise_cons] at hap
  obtain ⟨ha, ⟨hcb, hb⟩, hab⟩ := hap
  have hother : ∀ x, (x ∈ a ∨ x ∈ b) → ∀ y, y ∈ x.fp → y ∉ c.fp := by
    rintro x (hx | hx) y hy hc
    · exact hab x hx c (by simp) y hy hc
    · exact hcb x hx y hc hy
  have hlt : ∀ x, (x ∈ a ∨ x ∈ b) → ∀ y, y ∈ x.fp → y < w.heap.size := fun x hx y hy => (H.ok x (by rcases hx with hx | hx <;> simp [hx])).lt y hy
  have hd : ∀ x, (x ∈ a ∨ x ∈ b) → ∀ y, y ∈ x.fp → y ∉ M' := fun x hx y hy hm => (hM y hm).elim (hother x hx y hy) (fun h => by have := hlt x hx y hy; omega)
  have hc' : ∀ x, (x ∈ a ∨ x ∈ b) → ∀ y, y ∈ x.fp → y ∉ c'.fp := fun x hx y hy hm => (hfp y hm).elim (hother x hx y hy) (fun h => by have := hlt x hx y hy; omega)
  have hro : ∀ d, d ∈ ro → ∀ y, y ∈ d.fp → y ∉ M' := fun d hd y hy hm => (hM y hm).elim (fun h => H.rapart c (by simp) d hd y h hy) (fun h => by have := (H.rok d hd).lt y hy; omega)
  refine ⟨H.fr.trans hf (fun y hy => (hM y hy).elim (fun h => H.own c (by simp) y h) fun h => .inr (Nat.le_trans H.fr.size h)), ?_, ?_, ?_, ?_, ?_⟩
  · intro x hx
    simp only [List.mem_append, List.mem_cons] at hx
    rcases hx with hx | rfl | hx
    · exact (H.ok x (by simp [hx])).keep hf (hd x (.inl hx))
    · exact hok
    · exact (H.ok x (by simp [hx])).keep hf (hd x (.inr hx))
  · exact fun d hd' => (H.rok d hd').keep hf (hro d hd')
  · intro x hx y hy
    simp only [List.mem_append, List.mem_cons] at hx
    rcases hx with hx | rfl | hx
    · exact H.own x (by simp [hx]) y hy
    · exact (hfp y hy).elim (fun h => H.own c (by simp) y h) fun h => .inr (Nat.le_trans H.fr.size h)
    · exact H.own x (by simp [hx]) y hy
  · rw [List.pairwise_append, List.pairwise_cons]
    refine ⟨ha, ⟨fun x hx y hy hm => hc' x (.inr hx) y hm hy, hb⟩, fun x hx z hz y hy hm => ?_⟩
    simp only [List.mem_cons] at hz
    rcases hz with rfl | hz
    · exact hc' x (.inl hx) y hy hm
    · exact hab x hx z (by simp [hz]) y hy hm
  · intro x hx d hd' y hy hm
    simp only [List.mem_append, List.mem_cons] at hx
    rcases hx with hx | rfl | hx
    · exact H.rapart x (by simp [hx]) d hd' y hy hm
    · exact (hfp y hy).elim (fun h => H.rapart c (by simp) d hd' y h hm) (fun h => by have := (H.rok d hd').lt y hm; omega)
    · exact H.rapart x (by simp [hx]) d hd' y hy hm
/-- A new piece. -/
theorem St.new {c : Ck} (H : St w0 M cs ro w) (hf : Fr [] w w') (hok : c.ok w') (hfp : ∀ b, b ∈ c.fp → w.heap.size ≤ b) : St w0 M (c :: cs) ro w' := by
  have H' := H.quiet hf
  refine ⟨H'.fr, ?_, H'.rok, ?_, ?_, ?_⟩
  · intro x hx
    simp only [List.mem_cons] at hx
    rcases hx with rfl | hx
    · exact hok
    · exact H'.ok x hx
  · intro x hx y hy
    simp only [List.mem_cons] at hx
    rcases hx with rfl | hx
    · exact .inr (Nat.le_trans H.fr.size (hfp y hy))
    · exact H.own x hx y hy
  · exact List.pairwise_cons.2 ⟨fun x hx y hy hm => by have := (H.ok x hx).lt y hm; have := hfp y hy; omega, H.apart⟩
  · intro x hx d hd y hy hm
    simp only [List.mem_cons] at hx
    rcases hx with rfl | hx
    · have := (H.rok d hd).lt y hm; have := hfp y hy; omega
    · exact H.rapart x hx d hd y hy hm
/-- A new piece that is read alone. -/
theorem St.rnew {c : Ck} (H : St w0 M cs ro w) (hf : Fr [] w w') (hok : c.ok w') (hfp : ∀ b, b ∈ c.fp → w.heap.size ≤ b) : St w0 M cs (c :: ro) w' := by
  have H' := H.quiet hf
  refine ⟨H'.fr, H'.ok, ?_, H'.own, H'.apart, ?_⟩
  · intro x hx
    simp only [List.mem_cons] at hx
    rcases hx with rfl | hx
    · exact hok
    · exact H'.rok x hx
  · intro x hx d hd y hy hm
    simp only [List.mem_cons] at hd
    rcases hd with rfl | hd
    · have := (H.ok x hx).lt y hy; have := hfp y hm; omega
    · exact H.rapart x hx d hd y hy hm
/-- Pieces are forgotten, or said otherwise. -/
theorem St.drop {cs' ro' : List Ck} (H : St w0 M cs ro w) (h : cs'.Sublist cs) (hr : ∀ d, d ∈ ro' → d ∈ ro) : St w0 M cs' ro' w :=
  ⟨H.fr, fun c hc => H.ok c (h.subset hc), fun c hc => H.rok c (hr c hc), fun c hc => H.own c (h.subset hc), H.apart.sublist h, fun c hc d hd => H.rapart c (h.subset hc) d (hr d hd)⟩
theorem St.say {c c' : Ck} {cs' : List Ck} (H : St w0 M cs ro w) (hA : At c c' cs cs') (h : c.ok w → c'.ok w) (hfp : ∀ b, b ∈ c'.fp → b ∈ c.fp) : St w0 M cs' ro w :=
  H.turn (M' := []) hA (Fr.refl _ _) (by simp) (h (H.ok c hA.mem)) fun b hb => .inl (hfp b hb)
/-- An own piece is from now on read alone. -/
theorem St.shut {c : Ck} (H : St w0 M (c :: cs) ro w) : St w0 M cs (c :: ro) w := by
  have hap := List.pairwise_cons.1 H.apart
  refine ⟨H.fr, fun x hx => H.ok x (by simp [hx]), ?_, fun x hx => H.own x (by simp [hx]), hap.2, ?_⟩
  · intro x hx
    simp only [List.mem_cons] at hx
    rcases hx with rfl | hx
    · exact H.ok _ (by simp)
    · exact H.rok x hx
  · intro x hx d hd y hy hm
    simp only [List.mem_cons] at hd
    rcases hd with rfl | hd
    · exact hap.1 x hx y hm hy
    · exact H.rapart x (by simp [hx]) d hd y hy hm
theorem St.size (H : St w0 M cs ro w) : w0.heap.size ≤ w.heap.size := H.fr.size
end
end Go.HW
