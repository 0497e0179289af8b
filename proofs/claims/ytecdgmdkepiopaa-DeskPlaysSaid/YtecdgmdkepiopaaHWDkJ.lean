import Derived.Test.YtecdgmdkepiopaaHWDkP
import Derived.Test.YtecdgmdkepiopaaHWOpen2
import Derived.OpenShut
set_option linter.unusedSimpArgs false
set_option linter.unusedVariables false
set_option linter.unusedSectionVars false
namespace Go.Proofs.Ytecdgmdkepiopaa
open Go Go.HW Go.RowKit Go.ChangeShapes Go.WideShapes
attribute [local irreducible] WL WC WG wpList Code.wp

section
variable {H : Type} {enc : TypeId × Value → H} {W : World} {base : Nat} {spare : Nat → Bool} {held : Bool}
theorem open_cel (n : Nat) (cs : List Value) (y : DataW H × List MemPlace) (h : DataW.trod enc Try.prog W base spare held n 64 cs = some y) : ∃ c : Cel, cs = c.enc ∧ True := by
  have hl : cs.length = 2 := (part_of Try.underlying64 h).1.trans (by kernel_rfl)
  obtain ⟨n0, h0, _⟩ := struct_int Try.underlying64 h (i := 0) (o := 0) rfl rfl Try.underlying21 (by kernel_rfl)
  obtain ⟨n1, h1, _⟩ := struct_int Try.underlying64 h (i := 1) (o := 1) rfl rfl Try.underlying62 (by kernel_rfl)
  match cs, hl with
  | [a, b], _ =>
    simp at h0 h1
    exact ⟨⟨n0, n1⟩, by simp [Cel.enc, h0, h1], trivial⟩
theorem open_cd (n : Nat) (cs : List Value) (y : DataW H × List MemPlace) (h : DataW.trod enc Try.prog W base spare held n 79 cs = some y) : ∃ c : Cd, cs = c.enc ∧ c.ok := by
  have hl : cs.length = 6 := (part_of Try.underlying79 h).1.trans (by kernel_rfl)
  obtain ⟨n0, h0, w0⟩ := struct_int Try.underlying79 h (i := 0) (o := 0) rfl rfl Try.underlying5 (by kernel_rfl)
  obtain ⟨n1, h1, w1⟩ := struct_int Try.underlying79 h (i := 1) (o := 1) rfl rfl Try.underlying5 (by kernel_rfl)
  obtain ⟨n2, h2, w2⟩ := struct_int Try.underlying79 h (i := 2) (o := 2) rfl rfl Try.underlying5 (by kernel_rfl)
  obtain ⟨n3, h3, w3⟩ := struct_int Try.underlying79 h (i := 3) (o := 3) rfl rfl Try.underlying5 (by kernel_rfl)
  obtain ⟨n4, h4, w4⟩ := struct_int Try.underlying79 h (i := 4) (o := 4) rfl rfl Try.underlying21 (by kernel_rfl)
  obtain ⟨n5, h5, w5⟩ := struct_int Try.underlying79 h (i := 5) (o := 5) rfl rfl Try.underlying62 (by kernel_rfl)
  have b0 := bounds_u8 w0
  have b1 := bounds_u8 w1
  have b2 := bounds_u8 w2
  have b3 := bounds_u8 w3
  have b4 := bounds_i32 w4
  have b5 := bounds_u32 w5
  match cs, hl with
  | [a, b, c, d, e, f], _ =>
    simp at h0 h1 h2 h3 h4 h5
    exact ⟨⟨n0, n1, n2, n3, n4, n5⟩, by simp [Cd.enc, h0, h1, h2, h3, h4, h5], b0.1, b0.2, b1.1, b1.2, b2.1, b2.2, b3.1, b3.2, b4.1, b4.2, b5.1, b5.2⟩
theorem open_gm {fuel : Nat} {cs : List Value} {x : DataW H × List MemPlace} (h : DataW.trod enc Try.prog W base spare held fuel 26 cs = some x) :
    ∃ (g : Gm) (A B : Option Addr) (ca cb : Nat), cs = g.val A ca B cb ∧ g.ok ∧ g.cells.length ≤ ca ∧ g.code.length ≤ cb ∧ Cells W A (encs Cel.enc g.cells) ∧ Cells W B (encs Cd.enc g.code) := by
  obtain ⟨hl0, hp⟩ := part_of Try.underlying26 h
  have hl : cs.length = 6 := hl0.trans (by kernel_rfl)
  obtain ⟨n0, h0, w0⟩ := struct_int Try.underlying26 h (i := 0) (o := 0) rfl rfl Try.underlying3 (by kernel_rfl)
  obtain ⟨n1, h1, w1⟩ := struct_int Try.underlying26 h (i := 1) (o := 1) rfl rfl Try.underlying3 (by kernel_rfl)
  obtain ⟨n2, h2, w2⟩ := struct_int Try.underlying26 h (i := 2) (o := 2) rfl rfl Try.underlying22 (by kernel_rfl)
  obtain ⟨n3, h3, w3⟩ := struct_int Try.underlying26 h (i := 3) (o := 3) rfl rfl Try.underlying22 (by kernel_rfl)
  obtain ⟨m4, y4, h4⟩ := hp 4 _ rfl
  obtain ⟨m5, y5, h5⟩ := hp 5 _ rfl
  obtain ⟨A, ca, l, e4, k1, k2, k3, k4⟩ := slice_cells (s := 2) Cel.enc (fun _ => True) Try.underlying23 (by kernel_rfl) (by decide) open_cel Cel.len h4
  obtain ⟨B, cb, l', e5, q1, q2, q3, q4⟩ := slice_cells (s := 6) Cd.enc Cd.ok Try.underlying24 (by kernel_rfl) (by decide) open_cd Cd.len h5
  have b0 := bounds_i64 w0
  have b1 := bounds_i64 w1
  have b2 := bounds_u32 w2
  have b3 := bounds_u32 w3
  have hc4 : Try.prog.cellsOf 23 = 1 := by kernel_rfl
  have hc5 : Try.prog.cellsOf 24 = 1 := by kernel_rfl
  have e4' : (cs.drop 4).take 1 = [.slice A l.length ca] := by rw [← hc4]; exact e4
  have e5' : (cs.drop 5).take 1 = [.slice B l'.length cb] := by rw [← hc5]; exact e5
  clear e4 e5 h hp h4 h5 hl0
  match cs, hl with
  | [a, b, c, d, e, f], _ =>
    simp at h0 h1 h2 h3
    simp at e4' e5'
    exact ⟨⟨n0, n1, n2, n3, l, l'⟩, A, B, ca, cb, by simp [Gm.val, h0, h1, h2, h3, e4', e5'], ⟨b0.1, b0.2, b1.1, b1.2, b2.1, b2.2, b3.1, b3.2, q4, by simp only; omega, by simp only; omega⟩, k1, q1, k3, q3⟩
end

section
variable {H : Type} {enc : TypeId × Value → H} {W : World} {base : Nat} {spare : Nat → Bool} {held : Bool}
theorem open_ac (n : Nat) (cs : List Value) (y : DataW H × List MemPlace) (h : DataW.trod enc Try.prog W base spare held n 55 cs = some y) : ∃ c : Ac, cs = c.enc ∧ c.ok := by
  have hl : cs.length = 5 := (part_of Try.underlying55 h).1.trans (by kernel_rfl)
  obtain ⟨n0, h0, w0⟩ := struct_int Try.underlying55 h (i := 0) (o := 0) rfl rfl Try.underlying5 (by kernel_rfl)
  obtain ⟨n1, h1, w1⟩ := struct_int Try.underlying55 h (i := 1) (o := 1) rfl rfl Try.underlying3 (by kernel_rfl)
  obtain ⟨n2, h2, w2⟩ := struct_int Try.underlying55 h (i := 2) (o := 2) rfl rfl Try.underlying22 (by kernel_rfl)
  obtain ⟨n3, h3⟩ := struct_bool Try.underlying55 h (i := 3) (o := 3) rfl rfl Try.underlying4 (by kernel_rfl)
  obtain ⟨n4, h4, w4⟩ := struct_int Try.underlying55 h (i := 4) (o := 4) rfl rfl Try.underlying22 (by kernel_rfl)
  have b0 := bounds_u8 w0
  have b1 := bounds_i64 w1
  have b2 := bounds_u32 w2
  have b4 := bounds_u32 w4
  match cs, hl with
  | [a, b, c, d, e], _ =>
    simp at h0 h1 h2 h3 h4
    exact ⟨⟨n0, n1, n2, n3, n4⟩, by simp [Ac.enc, h0, h1, h2, h3, h4], b0.1, b0.2, b1.1, b1.2, b2.1, b2.2, b4.1, b4.2⟩
theorem open_acts {fuel : Nat} {cs : List Value} {x : DataW H × List MemPlace} (h : DataW.trod enc Try.prog W base spare held fuel 44 cs = some x) :
    ∃ (A : Option Addr) (cap : Nat) (l : List Ac), cs = [.slice A l.length cap] ∧ l.length ≤ cap ∧ cap ≤ maxLen ∧ Cells W A (encs Ac.enc l) ∧ ∀ a, a ∈ l → a.ok :=
  slice_cells (s := 5) Ac.enc Ac.ok Try.underlying44 (by kernel_rfl) (by decide) open_ac Ac.len h
end
end Go.Proofs.Ytecdgmdkepiopaa
