/- -/
import Derived.Test.YteiainhbhaodoaaGreatL12
namespace Go.Pw
section
variable {P : Program} {ρ : Operand → Value} {o : Oper} {w : World} {K : Value → World → Prop} {T T' E : TypeId} {x : Operand} {a : Option Addr} {n c : Nat}
end
end Go.Pw
