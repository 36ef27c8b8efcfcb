/-
  The order of integers, as Go's cmp.Compare gives it; tuples of many parts.
-/
namespace Go.Pw
universe u
end Go.Pw
