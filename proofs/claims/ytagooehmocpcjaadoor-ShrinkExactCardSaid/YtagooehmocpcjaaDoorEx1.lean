/-
  The walks (printed by my generator).
-/
import Derived.Test.YtagooehmocpcjaaDoorEx0
import Derived.Test.YtagooehmocpcjaaDoorExZ
set_option maxRecDepth 100000
set_option maxHeartbeats 4000000
set_option linter.unusedVariables false
namespace Go.Pw
open Go.Proofs
theorem Z71 : tyZero Tryd.prog 71 = some (Value.agg #[Value.pointer none, Value.slice none 0 0]) := by kernel_rfl

theorem N41 : (Tryd.f41.name == "runtime.NumGoroutine") = false := by kernel_rfl

end Go.Pw
