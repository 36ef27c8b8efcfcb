/- -/
import Derived.Test.YtjbjflndiajoiaaGreatDoorLD
import Derived.Test.YtjbjflndiajoiaaGreatDoorWa0
import Derived.Test.YtjbjflndiajoiaaGreatDoorWaSv
set_option maxRecDepth 100000
set_option maxHeartbeats 4000000
set_option linter.unusedVariables false
namespace Go.Pw
open Go.Proofs
attribute [local irreducible] Exec WL W andThen Qax DL QX
end Go.Pw
