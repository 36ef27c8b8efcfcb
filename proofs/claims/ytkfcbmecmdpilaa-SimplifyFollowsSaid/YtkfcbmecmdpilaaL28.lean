/-
  My walk's base, part 28: the room that a slice among the arguments takes.
-/
import Derived.Test.YtkfcbmecmdpilaaL7
set_option linter.unusedSimpArgs false
namespace Go.Pw
end Go.Pw
