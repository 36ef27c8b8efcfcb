/- -/
namespace Go.Pw
universe u
end Go.Pw
