/- -/
import Derived.Test.YteiainhbhaodoaaGreatL14
set_option linter.unusedSimpArgs false
namespace Go.Pw
section
variable {P : Program} {ρ : Operand → Value} {o : Oper} {w w0 : World} {s : PHeap} {H : List Res} {K : Value → World → Prop} {T T' : TypeId} {x y : Operand} {a b c : ByteArray}
end
end Go.Pw
