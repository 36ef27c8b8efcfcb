/-
  My walk's base, part 10: parts of slices.
-/
import Derived.Test.YtkfcbmecmdpilaaL8
namespace Go.Pw
section
variable {P : Program} {ρ : Operand → Value} {o : Oper} {w w0 : World} {K : Value → World → Prop} {T : TypeId} {s : PHeap} {H : List Res}
end
end Go.Pw
