/-
  Plain Lean: loops with a counter of their own. No program in sight.
-/
import Derived.Test.YtcabhickgjhkhaaGreatDoorB0
set_option maxHeartbeats 4000000
set_option linter.unusedSimpArgs false
set_option linter.unusedVariables false
namespace Go.Pw
end Go.Pw
