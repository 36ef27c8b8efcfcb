/-
  My walk's base, part 29: in a region that draws its order: operations that are passed over, and tests that are known, reckoned in one step; a plan of quiet operations in their order.
-/
import Derived.Test.YtcabhickgjhkhaaGreatDoorL10
set_option linter.unusedSimpArgs false
namespace Go.Pw
/-- The quiet operations from i on, n of them. -/
def qs : Nat → Nat → DPlan → DPlan
  | _, 0, r => r
  | i, n + 1, r => .q i (qs (i + 1) n r)
end Go.Pw
