/-
  My walk's base, part 44: a key is taken out of a map of ints to truth values.
-/
import Derived.Test.YtcabhickgjhkhaaGreatDoorL43
set_option linter.unusedSimpArgs false
set_option linter.unusedVariables false
namespace Go.Pw
section
variable {P : Program} {ρ : Operand → Value} {o : Oper} {w w0 : World} {s : PHeap} {H : List Res} {K : Value → World → Prop} {T k e : TypeId} {b : Nat} {m : BMap}
end
end Go.Pw
