/-
  The walks (printed by my generator).
-/
import Derived.Test.YtagooehmocpcjaaDoorEx1
import Derived.Test.YtagooehmocpcjaaDoorExIt
set_option maxRecDepth 100000
set_option maxHeartbeats 4000000
set_option linter.unusedVariables false
namespace Go.Pw
open Go.Proofs
theorem N40 : (Tryd.f40.name == "runtime.NumGoroutine") = false := by kernel_rfl

end Go.Pw
