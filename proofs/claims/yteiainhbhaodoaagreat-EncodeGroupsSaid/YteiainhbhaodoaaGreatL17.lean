/- -/
import Derived.Test.YteiainhbhaodoaaGreatL16
import Derived.Test.YteiainhbhaodoaaGreatL9
import Derived.Laws.Externs
set_option linter.unusedSimpArgs false
namespace Go.Pw
section
variable {P : Program} {ρ : Operand → Value} {o : Oper} {w w0 : World} {s : PHeap} {H : List Res} {K : Value → World → Prop} {T e : TypeId} {b : Nat} {xs : List Int}
/-! ### parts of strings -/
end
end Go.Pw
