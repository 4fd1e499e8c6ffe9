/- Tables and what is asked of stores, opened. No condition. -/
import Derived.Test.YtcmpgiahjbopnaaOpenG
import Derived.Test.YtcmpgiahjbopnaaStoW
namespace Go.Proofs.Ytcmpgiahjbopnaa
set_option linter.unusedVariables false
set_option linter.unusedSimpArgs false
open Go.ChangeShapes Go.WideShapes Go.ChangeAt Go.RowKit Go.Deep
namespace OpenSt
open StoW
theorem len4 {cs : List Value} (h : cs.length = 4) : ∃ c0 c1 c2 c3, cs = [c0, c1, c2, c3] := by
  match cs, h with
  | [c0, c1, c2, c3], _ => exact ⟨c0, c1, c2, c3, rfl⟩
theorem len2 {cs : List Value} (h : cs.length = 2) : ∃ c0 c1, cs = [c0, c1] := by
  match cs, h with
  | [c0, c1], _ => exact ⟨c0, c1, rfl⟩
theorem nat_u64 {n : Int} (h : (Lit.int .u64 n).wf = true) : ∃ m : Nat, n = m ∧ m < 18446744073709551616 := by
  simp only [Lit.wf, IntKind.min, IntKind.max, IntKind.signed, IntKind.bits, Bool.and_eq_true] at h
  simp at h
  exact ⟨n.toNat, by omega, by omega⟩
theorem u16_in {n : Int} (h : (Lit.int .u16 n).wf = true) : 0 ≤ n ∧ n < 65536 := by
  simp only [Lit.wf, IntKind.min, IntKind.max, IntKind.signed, IntKind.bits, Bool.and_eq_true] at h
  simp at h
  omega
section
variable {H : Type} {enc : TypeId × Value → H} {w : World} {base : Nat} {spare : Nat → Bool} {held : Bool}
theorem open_tb {cs : List Value} (h : Opn enc Try.prog w base spare held 24 cs) : ∃ (most size : Int) (seed mask : Nat), cs = [.int .i64 most, .int .u64 (seed : Nat), .int .u64 (mask : Nat), .int .i64 size] ∧ seed < 18446744073709551616 ∧ mask < 18446744073709551616 := by
  obtain ⟨hl, _⟩ := Opn.struct Try.underlying24 h
  have hl : cs.length = 4 := hl.trans (by kernel_rfl)
  obtain ⟨c0, c1, c2, c3, rfl⟩ := len4 hl
  have ci : Try.prog.cellsOf 3 = 1 := by kernel_rfl
  have cj : Try.prog.cellsOf 22 = 1 := by kernel_rfl
  have f0 : Opn enc Try.prog w base spare held 3 [c0] := Opn.field h Try.underlying24 0 0 1 rfl ci
  have f1 : Opn enc Try.prog w base spare held 22 [c1] := Opn.field h Try.underlying24 1 1 1 rfl cj
  have f2 : Opn enc Try.prog w base spare held 22 [c2] := Opn.field h Try.underlying24 2 2 1 rfl cj
  have f3 : Opn enc Try.prog w base spare held 3 [c3] := Opn.field h Try.underlying24 3 3 1 rfl ci
  obtain ⟨x0, h0, _⟩ := Opn.int Try.underlying3 f0
  obtain ⟨x1, h1, g1⟩ := Opn.int Try.underlying22 f1
  obtain ⟨x2, h2, g2⟩ := Opn.int Try.underlying22 f2
  obtain ⟨x3, h3, _⟩ := Opn.int Try.underlying3 f3
  obtain ⟨m1, rfl, b1⟩ := nat_u64 g1
  obtain ⟨m2, rfl, b2⟩ := nat_u64 g2
  cases h0; cases h1; cases h2; cases h3
  exact ⟨x0, x3, m1, m2, rfl, b1, b2⟩
theorem i64_in {n : Int} (h : (Lit.int .i64 n).wf = true) : -9223372036854775808 ≤ n ∧ n < 9223372036854775808 := by
  simp only [Lit.wf, IntKind.min, IntKind.max, IntKind.signed, IntKind.bits, Bool.and_eq_true] at h
  simp at h
  omega
theorem open_ask {cs : List Value} (h : Opn enc Try.prog w base spare held 27 cs) : ∃ (s : ByteArray) (k : Int), cs = [.string s, .int .i64 k] ∧ s.size ≤ 9223372036854775807 ∧ (-9223372036854775808 ≤ k ∧ k < 9223372036854775808) := by
  obtain ⟨hl, _⟩ := Opn.struct Try.underlying27 h
  have hl : cs.length = 2 := hl.trans (by kernel_rfl)
  obtain ⟨c0, c1, rfl⟩ := len2 hl
  have ci : Try.prog.cellsOf 3 = 1 := by kernel_rfl
  have ct : Try.prog.cellsOf 9 = 1 := by kernel_rfl
  have f0 : Opn enc Try.prog w base spare held 9 [c0] := Opn.field h Try.underlying27 0 0 1 rfl ct
  have f1 : Opn enc Try.prog w base spare held 3 [c1] := Opn.field h Try.underlying27 1 1 1 rfl ci
  obtain ⟨x0, h0, g0⟩ := Opn.str Try.underlying9 f0
  obtain ⟨x1, h1, g1⟩ := Opn.int Try.underlying3 f1
  cases h0; cases h1
  exact ⟨x0, x1, rfl, by unfold maxLen at g0; omega, i64_in g1⟩
end
end OpenSt
end Go.Proofs.Ytcmpgiahjbopnaa
