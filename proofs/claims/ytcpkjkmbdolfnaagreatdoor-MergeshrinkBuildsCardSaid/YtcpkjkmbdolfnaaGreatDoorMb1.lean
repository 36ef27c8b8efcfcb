/- -/
import Derived.Test.YtcpkjkmbdolfnaaGreatDoorLD
import Derived.Test.YtcpkjkmbdolfnaaGreatDoorMb0
import Derived.Test.YtcpkjkmbdolfnaaGreatDoorMbSv
set_option maxRecDepth 100000
set_option maxHeartbeats 4000000
set_option linter.unusedVariables false
namespace Go.Pw
open Go.Proofs
attribute [local irreducible] Exec WL W andThen Y2 DL QW
end Go.Pw
