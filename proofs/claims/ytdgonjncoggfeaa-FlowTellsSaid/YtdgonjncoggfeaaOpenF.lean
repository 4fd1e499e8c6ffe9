/- Instructions and watches that come in, opened. No condition. -/
import Derived.Test.YtdgonjncoggfeaaOpenG
import Derived.Test.YtdgonjncoggfeaaFloM
namespace Go.Proofs.Ytdgonjncoggfeaa
open Go.ChangeShapes Go.WideShapes Go.ChangeAt Go.RowKit Go.Deep
namespace OpenF
open FloP FloW
theorem len11 {cs : List Value} (h : cs.length = 11) : ∃ c0 c1 c2 c3 c4 c5 c6 c7 c8 c9 c10, cs = [c0, c1, c2, c3, c4, c5, c6, c7, c8, c9, c10] := by
  match cs, h with
  | [c0, c1, c2, c3, c4, c5, c6, c7, c8, c9, c10], _ => exact ⟨c0, c1, c2, c3, c4, c5, c6, c7, c8, c9, c10, rfl⟩
theorem len7 {cs : List Value} (h : cs.length = 7) : ∃ c0 c1 c2 c3 c4 c5 c6, cs = [c0, c1, c2, c3, c4, c5, c6] := by
  match cs, h with
  | [c0, c1, c2, c3, c4, c5, c6], _ => exact ⟨c0, c1, c2, c3, c4, c5, c6, rfl⟩
section
variable {H : Type} {enc : TypeId × Value → H} {w : World} {base : Nat} {spare : Nat → Bool} {held : Bool}
theorem open_ix {cs : List Value} (h : Opn enc Try.prog w base spare held 31 cs) : ∃ x : Ix, cs = ixc x ∧ (Ils w w.heap.size x.lA x.ln x.ks ∧ x.ln ≤ 9223372036854775807) := by
  obtain ⟨hl, _⟩ := Opn.struct Try.underlying31 h
  have hl : cs.length = 11 := hl.trans (by kernel_rfl)
  obtain ⟨c0, c1, c2, c3, c4, c5, c6, c7, c8, c9, c10, rfl⟩ := len11 hl
  have ci : Try.prog.cellsOf 3 = 1 := by kernel_rfl
  have cj : Try.prog.cellsOf 2 = 1 := by kernel_rfl
  have ct : Try.prog.cellsOf 9 = 1 := by kernel_rfl
  have cp : Try.prog.cellsOf 25 = 1 := by kernel_rfl
  have ce : Try.prog.cellsOf 26 = 1 := by kernel_rfl
  have cx : Try.prog.cellsOf 28 = 5 := by kernel_rfl
  have cl : Try.prog.cellsOf 29 = 1 := by kernel_rfl
  have f0 : Opn enc Try.prog w base spare held 3 [c0] := Opn.field h Try.underlying31 0 0 1 rfl ci
  have f1 : Opn enc Try.prog w base spare held 3 [c1] := Opn.field h Try.underlying31 1 1 1 rfl ci
  have f2 : Opn enc Try.prog w base spare held 9 [c2] := Opn.field h Try.underlying31 2 2 1 rfl ct
  have f3 : Opn enc Try.prog w base spare held 2 [c3] := Opn.field h Try.underlying31 3 3 1 rfl cj
  have f4 : Opn enc Try.prog w base spare held 25 [c4] := Opn.field h Try.underlying31 4 4 1 rfl cp
  have f5 : Opn enc Try.prog w base spare held 28 [c5, c6, c7, c8, c9] := Opn.field h Try.underlying31 5 5 5 rfl cx
  have f6 : Opn enc Try.prog w base spare held 29 [c10] := Opn.field h Try.underlying31 6 10 1 rfl cl
  have g0 : Opn enc Try.prog w base spare held 3 [c5] := Opn.field f5 Try.underlying28 0 0 1 rfl ci
  have g1 : Opn enc Try.prog w base spare held 2 [c6] := Opn.field f5 Try.underlying28 1 1 1 rfl cj
  have g2 : Opn enc Try.prog w base spare held 9 [c7] := Opn.field f5 Try.underlying28 2 2 1 rfl ct
  have g3 : Opn enc Try.prog w base spare held 9 [c8] := Opn.field f5 Try.underlying28 3 3 1 rfl ct
  have g4 : Opn enc Try.prog w base spare held 26 [c9] := Opn.field f5 Try.underlying28 4 4 1 rfl ce
  obtain ⟨x0, h0, _⟩ := Opn.int Try.underlying3 f0
  obtain ⟨x1, h1, _⟩ := Opn.int Try.underlying3 f1
  obtain ⟨x2, h2, _⟩ := Opn.str Try.underlying9 f2
  obtain ⟨x3, h3, _⟩ := Opn.int Try.underlying2 f3
  obtain ⟨A4, n4, q4, _, h4, _⟩ := Opn.slice Try.underlying25 (show Try.prog.cellsOf 93 = 2 by kernel_rfl) (by omega) f4
  obtain ⟨x5, h5, _⟩ := Opn.int Try.underlying3 g0
  obtain ⟨x6, h6, _⟩ := Opn.int Try.underlying2 g1
  obtain ⟨x7, h7, _⟩ := Opn.str Try.underlying9 g2
  obtain ⟨x8, h8, _⟩ := Opn.str Try.underlying9 g3
  obtain ⟨A9, n9, q9, _, h9, _⟩ := Opn.slice Try.underlying26 cx (by omega) g4
  obtain ⟨A10, n10, q10, gs, h10, l10, m10, e10, _, R10⟩ := Opn.ints Try.underlying29 Try.underlying3 ci f6
  cases h0; cases h1; cases h2; cases h3; cases h4; cases h5; cases h6; cases h7; cases h8; cases h9; cases h10
  exact ⟨⟨x0, x1, x2, x3, A4, n4, q4, x5, x6, x7, x8, A9, n9, q9, A10, n10, q10, gs⟩, rfl, R10, by show n10 ≤ 9223372036854775807; simp [maxLen] at m10; omega⟩
theorem open_wx {cs : List Value} (h : Opn enc Try.prog w base spare held 41 cs) : ∃ x : Wx, cs = wxc x ∧ True := by
  obtain ⟨hl, _⟩ := Opn.struct Try.underlying41 h
  have hl : cs.length = 7 := hl.trans (by kernel_rfl)
  obtain ⟨c0, c1, c2, c3, c4, c5, c6, rfl⟩ := len7 hl
  have ci : Try.prog.cellsOf 3 = 1 := by kernel_rfl
  have ct : Try.prog.cellsOf 9 = 1 := by kernel_rfl
  have cb : Try.prog.cellsOf 4 = 1 := by kernel_rfl
  have cp : Try.prog.cellsOf 39 = 2 := by kernel_rfl
  have f0 : Opn enc Try.prog w base spare held 3 [c0] := Opn.field h Try.underlying41 0 0 1 rfl ci
  have f1 : Opn enc Try.prog w base spare held 3 [c1] := Opn.field h Try.underlying41 1 1 1 rfl ci
  have f2 : Opn enc Try.prog w base spare held 39 [c2, c3] := Opn.field h Try.underlying41 2 2 2 rfl cp
  have f3 : Opn enc Try.prog w base spare held 3 [c4] := Opn.field h Try.underlying41 3 4 1 rfl ci
  have f4 : Opn enc Try.prog w base spare held 4 [c5] := Opn.field h Try.underlying41 4 5 1 rfl cb
  have f5 : Opn enc Try.prog w base spare held 3 [c6] := Opn.field h Try.underlying41 5 6 1 rfl ci
  have g0 : Opn enc Try.prog w base spare held 3 [c2] := Opn.field f2 Try.underlying39 0 0 1 rfl ci
  have g1 : Opn enc Try.prog w base spare held 9 [c3] := Opn.field f2 Try.underlying39 1 1 1 rfl ct
  obtain ⟨x0, h0, _⟩ := Opn.int Try.underlying3 f0
  obtain ⟨x1, h1, _⟩ := Opn.int Try.underlying3 f1
  obtain ⟨x2, h2, _⟩ := Opn.int Try.underlying3 g0
  obtain ⟨x3, h3, _⟩ := Opn.str Try.underlying9 g1
  obtain ⟨x4, h4, _⟩ := Opn.int Try.underlying3 f3
  obtain ⟨x5, h5⟩ := Opn.bool Try.underlying4 f4
  obtain ⟨x6, h6, _⟩ := Opn.int Try.underlying3 f5
  cases h0; cases h1; cases h2; cases h3; cases h4; cases h5; cases h6
  exact ⟨⟨x0, x1, x2, x3, x4, x5, x6⟩, rfl, trivial⟩
theorem open_code {v0 v1 : Value} (h0 : Opn enc Try.prog w base spare held 22 v0.cells.toList) (h1 : Opn enc Try.prog w base spare held 23 v1.cells.toList) : ∃ A n c A' n' c' xs ws, v0.cells.toList = [.slice A n c] ∧ v1.cells.toList = [.slice A' n' c'] ∧ Cd w w.heap.size A n A' n' xs ws := by
  obtain ⟨A, n, c, rows, e0, l0, m0, k0, g0, R0⟩ := Opn.slice Try.underlying22 (show Try.prog.cellsOf 31 = 11 by kernel_rfl) (by omega) h0
  obtain ⟨A', n', c', rows', e1, l1, m1, k1, g1, R1⟩ := Opn.slice Try.underlying23 (show Try.prog.cellsOf 41 = 7 by kernel_rfl) (by omega) h1
  obtain ⟨xs, a1, a2, a3⟩ := Opn.each_flat (f := ixc) (Q := fun x => Ils w w.heap.size x.lA x.ln x.ks ∧ x.ln ≤ 9223372036854775807) rows (fun r hr => open_ix (g0 r hr).2)
  obtain ⟨ws, b1, b2, b3⟩ := Opn.each_flat (f := wxc) (Q := fun _ => True) rows' (fun r hr => open_wx (g1 r hr).2)
  rw [a2] at R0
  rw [b2] at R1
  have hm : maxLen ≤ 9223372036854775807 := by simp [maxLen]
  exact ⟨A, n, c, A', n', c', xs, ws, e0, e1, R0, R1, fun x hx => (a3 x hx).1, ⟨by omega, by omega⟩, fun x hx => (a3 x hx).2⟩
end
end OpenF
end Go.Proofs.Ytdgonjncoggfeaa
