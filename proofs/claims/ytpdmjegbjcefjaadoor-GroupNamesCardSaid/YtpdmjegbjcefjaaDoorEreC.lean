/- The walks of the expression reader's end and class. Conditions: texts that fit. -/
import Derived.Test.YtpdmjegbjcefjaaDoorEreS
namespace Go.Proofs.YtpdmjegbjcefjaaDoor
set_option linter.unusedVariables false
set_option linter.unusedSimpArgs false
open Go.RowKit
namespace EreW
open EreP
abbrev bS (l : Array UInt8) : ByteArray := ⟨l⟩
end EreW
end Go.Proofs.YtpdmjegbjcefjaaDoor
