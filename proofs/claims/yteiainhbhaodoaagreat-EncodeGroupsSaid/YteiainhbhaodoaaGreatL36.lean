/- -/
import Derived.Test.YteiainhbhaodoaaGreatL9
import Derived.Test.YteiainhbhaodoaaGreatL10
set_option linter.unusedVariables false
namespace Go.Pw
section
variable {P : Program} {ρ : Operand → Value} {o : Oper} {w w0 : World} {K : Value → World → Prop} {T : TypeId} {s : PHeap} {H : List Res}
end
end Go.Pw
