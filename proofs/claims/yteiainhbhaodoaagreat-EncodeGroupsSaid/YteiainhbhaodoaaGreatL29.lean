/- -/
import Derived.Test.YteiainhbhaodoaaGreatL10
set_option linter.unusedSimpArgs false
namespace Go.Pw
def qs : Nat → Nat → DPlan → DPlan
 | _, 0, r => r
 | i, n + 1, r => .q i (qs (i + 1) n r)
end Go.Pw
