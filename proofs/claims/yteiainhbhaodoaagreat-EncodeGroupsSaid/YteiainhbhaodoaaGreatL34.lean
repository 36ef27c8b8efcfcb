/- -/
import Derived.Test.YteiainhbhaodoaaGreatLA
set_option linter.unusedVariables false
namespace Go.Pw
section
variable {P : Program} {ρ : Operand → Value} {o : Oper} {w : World} {K : Value → World → Prop} {T T' : TypeId} {x y : Operand} {a b : ByteArray}
end
end Go.Pw
