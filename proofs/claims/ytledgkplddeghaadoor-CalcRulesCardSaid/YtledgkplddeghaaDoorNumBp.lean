/- The reference quotient by 0. No condition. -/
import Derived.Test.YtledgkplddeghaaDoorNumZ
import Derived.Test.YtledgkplddeghaaDoorNumR
import Derived.Test.YtledgkplddeghaaDoorNumIp
namespace Go.Proofs.YtledgkplddeghaaDoor
set_option linter.unusedVariables false
set_option linter.unusedSimpArgs false
open Go.RowKit
namespace NumW
open NumP
theorem rdiv0_c (a : Int) (w : World) : Calls Tryd.prog 57 #[.int .i64 a, .int .i64 0] w fun e w' => e = .returned (.tuple #[.int .i64 0, .int .i64 0, .int .i64 4]) ∧ w = w' := by
  go_enter Tryd.func57, Tryd.ntmps57
  go_wp2_with fail
  go_returns
  exact ⟨rfl, rfl⟩
end NumW
end Go.Proofs.YtledgkplddeghaaDoor
