/-
  The walks (printed by my generator).
-/
import Derived.Test.YthbgcahoknmmmaaL29
import Derived.Test.YthbgcahoknmmmaaL27
import Derived.Test.YthbgcahoknmmmaaRa4
set_option maxRecDepth 100000
set_option maxHeartbeats 4000000
set_option linter.unusedVariables false
namespace Go.Pw
open Go.Proofs
end Go.Pw
