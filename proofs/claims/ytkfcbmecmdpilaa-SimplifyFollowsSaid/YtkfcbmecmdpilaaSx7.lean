/-
  The walks (printed by my generator).
-/
import Derived.Test.YtkfcbmecmdpilaaL29
import Derived.Test.YtkfcbmecmdpilaaL27
import Derived.Test.YtkfcbmecmdpilaaSx6
set_option maxRecDepth 100000
set_option maxHeartbeats 4000000
set_option linter.unusedVariables false
namespace Go.Pw
open Go.Proofs
theorem Z69 : tyZero Try.prog 69 = some (Value.agg #[Value.slice none 0 0, Value.slice none 0 0]) := by kernel_rfl
theorem A69 : tyAgg Try.prog 69 = some (true, 2) := by kernel_rfl
theorem F69_1 : tyField Try.prog 69 1 = some 1 := by kernel_rfl
theorem F69_0 : tyField Try.prog 69 0 = some 0 := by kernel_rfl
end Go.Pw
