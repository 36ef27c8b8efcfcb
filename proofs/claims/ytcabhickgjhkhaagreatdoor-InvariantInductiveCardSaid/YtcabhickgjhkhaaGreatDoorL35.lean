/-
  My walk's base, part 35: a load off what stays gives the same at any later time.
-/
import Derived.Test.YtcabhickgjhkhaaGreatDoorL10
set_option linter.unusedVariables false
set_option linter.unusedSimpArgs false
namespace Go.Pw
section
variable {P : Program} {ρ : Operand → Value} {o : Oper} {w w0 : World} {s : PHeap} {H : List Res} {K : Value → World → Prop} {T : TypeId}
end
end Go.Pw
