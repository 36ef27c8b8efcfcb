/- -/
import Derived.Test.YteiainhbhaodoaaGreatL6
namespace Go.Pw
def RR.own0 (L0 : List Res) : RR := ⟨true, fun _ _ L => L = L0, fun _ h => h, fun h => by cases h⟩
section
variable {P : Program} {N : Nat} {Q : Qaz} {f : Fr} {w w0 : World} {s : PHeap} {H Hs : List Res}
end
end Go.Pw
