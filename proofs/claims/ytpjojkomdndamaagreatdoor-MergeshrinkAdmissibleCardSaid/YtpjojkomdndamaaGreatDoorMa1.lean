/- -/
import Derived.Test.YtpjojkomdndamaaGreatDoorMa0
import Derived.Test.YtpjojkomdndamaaGreatDoorMaSv
set_option maxRecDepth 100000
set_option maxHeartbeats 4000000
set_option linter.unusedVariables false
namespace Go.Pw
open Go.Proofs
theorem N53 : (Tryz.f53.name == "runtime.NumGoroutine") = false := by kernel_rfl
end Go.Pw
