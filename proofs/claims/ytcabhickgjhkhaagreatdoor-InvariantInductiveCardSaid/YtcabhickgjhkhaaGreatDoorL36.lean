/-
  My walk's base, part 36: parts of slices that stay, with what a second run gives.
-/
import Derived.Test.YtcabhickgjhkhaaGreatDoorL9
import Derived.Test.YtcabhickgjhkhaaGreatDoorL10
set_option linter.unusedVariables false
namespace Go.Pw
section
variable {P : Program} {ρ : Operand → Value} {o : Oper} {w w0 : World} {K : Value → World → Prop} {T : TypeId} {s : PHeap} {H : List Res}
end
end Go.Pw
