/-
  My walk's base, part 9: a region that draws its order, some of whose operations take what is owned outside.
-/
import Derived.Test.YtcabhickgjhkhaaGreatDoorL6
namespace Go.Pw
def RR.own0 (L0 : List Res) : RR := ⟨true, fun _ _ L => L = L0, fun _ h => h, fun h => by cases h⟩
section
variable {P : Program} {N : Nat} {Q : Post} {f : Fr} {w w0 : World} {s : PHeap} {H Hs : List Res}
end
end Go.Pw
