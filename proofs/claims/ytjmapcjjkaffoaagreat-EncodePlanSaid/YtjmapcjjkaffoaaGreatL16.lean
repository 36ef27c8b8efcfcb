/-
  My walk's base, part 17: a row of bytes that takes a string at its end, and becomes one.
-/
import Derived.Test.YtjmapcjjkaffoaaGreatL15
import Derived.Lib.AppendStr
import Derived.Lib.UnsafeStr
import Derived.Lib.Builder
set_option linter.unusedSimpArgs false
namespace Go.Pw
/-! ### the pure words -/
def bytesOf (s : ByteArray) : List Int := s.data.toList.map fun b => (b.toNat : Int)
section
variable {P : Program} {ρ : Operand → Value} {o : Oper} {w w0 : World} {s : PHeap} {H : List Res} {K : Value → World → Prop} {Te : TypeId} {v : Value} {xs zs : List Int}
/-! ### a builder's own address -/
end
end Go.Pw
