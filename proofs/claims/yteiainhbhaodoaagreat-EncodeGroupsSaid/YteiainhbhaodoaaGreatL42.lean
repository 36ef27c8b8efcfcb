/- -/
import Derived.Test.YteiainhbhaodoaaGreatLA
set_option linter.unusedSimpArgs false
set_option linter.unusedVariables false
namespace Go.Pw
section
variable {P : Program} {ρ : Operand → Value} {o : Oper} {w : World} {K : Value → World → Prop} {T T' I : TypeId} {x y : Operand} {e : Option Int} {b : Int} {ms : Array (String × TypeId)}
end
end Go.Pw
