/- The walk of the expression reader's group; alt at every depth. Conditions: texts that fit. -/
import Derived.Test.YtpdmjegbjcefjaaDoorEreA
namespace Go.Proofs.YtpdmjegbjcefjaaDoor
set_option linter.unusedVariables false
set_option linter.unusedSimpArgs false
open Go.RowKit
namespace EreX
open EreP EreW
theorem grpF_eq (d : Nat) (hd : d < 64) (l : Bs) (g : Nat) : grpF d l g = match altP (grpP (64 - (d + 1))) (l.length + 1) [] l (g + 1) with
    | .error e => .error e
    | .ok (x, r', g') => match r' with
      | [] => .error ([], 1)
      | c :: r2 => if c == 41 then .ok (.mk 7 0 [x] 0 0 (numG g), r2, g') else .error (c :: r2, 1) := by
  obtain ⟨D, hD⟩ : ∃ D, 64 - d = D + 1 := ⟨63 - d, by omega⟩
  have h2 : 64 - (d + 1) = D := by omega
  unfold grpF
  rw [hD, h2]; rfl
end EreX
end Go.Proofs.YtpdmjegbjcefjaaDoor
