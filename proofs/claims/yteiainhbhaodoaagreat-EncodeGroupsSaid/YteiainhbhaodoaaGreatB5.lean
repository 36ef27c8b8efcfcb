/- -/
import Derived.Test.YteiainhbhaodoaaGreatBB
set_option maxHeartbeats 4000000
set_option linter.unusedSimpArgs false
set_option linter.unusedVariables false
namespace Go.Pw
end Go.Pw
