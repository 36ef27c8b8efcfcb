/- -/
import Derived.Test.YteiainhbhaodoaaGreatL15
import Derived.Lib.AppendStr
import Derived.Lib.UnsafeStr
import Derived.Lib.Builder
set_option linter.unusedSimpArgs false
namespace Go.Pw
/-! ### the pure words -/
def Kt (s : ByteArray) : List Int := s.data.toList.map fun b => (b.toNat : Int)
theorem Qfs (s : ByteArray) : (Kt s).length = s.size := by
 rw [Kt, List.length_map, Array.length_toList]; rfl
section
variable {P : Program} {ρ : Operand → Value} {o : Oper} {w w0 : World} {s : PHeap} {H : List Res} {K : Value → World → Prop} {Te : TypeId} {v : Value} {xs zs : List Int}
/-! ### a builder's own address -/
end
end Go.Pw
