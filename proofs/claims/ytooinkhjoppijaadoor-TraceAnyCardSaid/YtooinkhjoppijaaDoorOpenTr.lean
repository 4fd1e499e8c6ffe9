/- A trace, a choice that come in, opened. No condition. -/
import Derived.Test.YtooinkhjoppijaaDoorOpenG
import Derived.Test.YtooinkhjoppijaaDoorTraM
namespace Go.Proofs.YtooinkhjoppijaaDoor
set_option linter.unusedVariables false
set_option linter.unusedSimpArgs false
open Go.ChangeShapes Go.WideShapes Go.ChangeAt Go.RowKit Go.Deep
namespace OpenTr
open TraP TraW
theorem len3 {cs : List Value} (h : cs.length = 3) : ∃ c0 c1 c2, cs = [c0, c1, c2] := by
  match cs, h with
  | [c0, c1, c2], _ => exact ⟨c0, c1, c2, rfl⟩
section
variable {H : Type} {enc : TypeId × Value → H} {w : World} {base : Nat} {spare : Nat → Bool} {held : Bool}
theorem open_ch {cs : List Value} (h : Opn enc Tryd.prog w base spare held 39 cs) : ∃ c : Ch, cs = chC c ∧ True := by
  obtain ⟨hl, _⟩ := Opn.struct Tryd.underlying39 h
  have hl : cs.length = 3 := hl.trans (by kernel_rfl)
  obtain ⟨c0, c1, c2, rfl⟩ := len3 hl
  have ci : Tryd.prog.cellsOf 3 = 1 := by kernel_rfl
  have f0 : Opn enc Tryd.prog w base spare held 3 [c0] := Opn.field h Tryd.underlying39 0 0 1 rfl ci
  have f1 : Opn enc Tryd.prog w base spare held 3 [c1] := Opn.field h Tryd.underlying39 1 1 1 rfl ci
  have f2 : Opn enc Tryd.prog w base spare held 3 [c2] := Opn.field h Tryd.underlying39 2 2 1 rfl ci
  obtain ⟨a, h0, _⟩ := Opn.int Tryd.underlying3 f0
  obtain ⟨b, h1, _⟩ := Opn.int Tryd.underlying3 f1
  obtain ⟨c, h2, _⟩ := Opn.int Tryd.underlying3 f2
  cases h0; cases h1; cases h2
  exact ⟨(a, b, c), rfl, trivial⟩
theorem open_tr {cs : List Value} (h : Opn enc Tryd.prog w base spare held 24 cs) : ∃ (k n : Int) (A : Option Addr) (m c : Nat) (l : List Ch), cs = trC k n A m c ∧ m ≤ c ∧ c ≤ maxLen ∧ (A = none → c = 0) ∧ Chs w w.heap.size A m l := by
  obtain ⟨hl, _⟩ := Opn.struct Tryd.underlying24 h
  have hl : cs.length = 3 := hl.trans (by kernel_rfl)
  obtain ⟨c0, c1, c2, rfl⟩ := len3 hl
  have ci : Tryd.prog.cellsOf 3 = 1 := by kernel_rfl
  have cs : Tryd.prog.cellsOf 22 = 1 := by kernel_rfl
  have cc : Tryd.prog.cellsOf 39 = 3 := by kernel_rfl
  have f0 : Opn enc Tryd.prog w base spare held 3 [c0] := Opn.field h Tryd.underlying24 0 0 1 rfl ci
  have f1 : Opn enc Tryd.prog w base spare held 3 [c1] := Opn.field h Tryd.underlying24 1 1 1 rfl ci
  have f2 : Opn enc Tryd.prog w base spare held 22 [c2] := Opn.field h Tryd.underlying24 2 2 1 rfl cs
  obtain ⟨k, h0, _⟩ := Opn.int Tryd.underlying3 f0
  obtain ⟨n, h1, _⟩ := Opn.int Tryd.underlying3 f1
  cases h0; cases h1
  obtain ⟨A, m, c, rows, e, hmc, hc, hlen, hrows, hR⟩ := Opn.slice Tryd.underlying22 cc (by omega) f2
  have hA : A = none → c = 0 := by
    obtain ⟨fuel, x, hx⟩ := f2
    rcases open_slice Tryd.underlying22 hx with ⟨h1, _⟩ | ⟨a, len, cap, _, _, _, _, h1, _⟩
    · rw [h1] at e; cases e; exact fun _ => rfl
    · rw [h1] at e; cases e; intro h; cases h
  obtain ⟨l, hll, hfl, _⟩ := Opn.each_flat (f := chC) (Q := fun _ => True) rows (fun r hr => open_ch (hrows r hr).2)
  cases e
  refine ⟨k, n, A, m, c, l, rfl, hmc, hc, hA, ?_⟩
  rw [hfl] at hR
  exact hR
end
end OpenTr
end Go.Proofs.YtooinkhjoppijaaDoor
