/- The walks of the expression reader's alt and group, at all depths. Conditions: texts that fit. -/
import Derived.Test.YtpdmjegbjcefjaaDoorEreZ
namespace Go.Proofs.YtpdmjegbjcefjaaDoor
set_option linter.unusedVariables false
set_option linter.unusedSimpArgs false
open Go.RowKit
namespace EreX
open EreP EreW
/-- What a list of rows comes to. -/
def altS (G : Grp) (f : Nat) (acc : List Re) (l : Bs) (g : Nat) : R3 Re := if l.head? == some 124 then altP G f acc l.tail g else .ok (several 5 acc, l, g)
theorem alt_step {G : Grp} {f : Nat} {acc : List Re} {l r : Bs} {g g' : Nat} {x : Re} (h : rowP G (l.length + 1) [] l g = .ok (x, r, g')) : altP G (f + 1) acc l g = altS G f (acc ++ [x]) r g' := by
  rw [altP, h]; rfl
theorem alt_err {G : Grp} {f : Nat} {acc : List Re} {l : Bs} {g : Nat} {e : Bs × Nat} (h : rowP G (l.length + 1) [] l g = .error e) : altP G (f + 1) acc l g = .error e := by
  rw [altP, h]
theorem bar_any (c : UInt8) (r : Bs) : peekB (⟨#[124]⟩ : ByteArray).data.toList (c :: r) 0 = (c == 124) := par_any c 124 r
end EreX
end Go.Proofs.YtpdmjegbjcefjaaDoor
