/-
  The walks (printed by my generator).
-/
import Derived.Test.YthbgcahoknmmmaaGreatL29
import Derived.Test.YthbgcahoknmmmaaGreatL27
import Derived.Test.YthbgcahoknmmmaaGreatRz5
set_option maxRecDepth 100000
set_option maxHeartbeats 4000000
set_option linter.unusedVariables false
namespace Go.Pw
open Go.Proofs
end Go.Pw
