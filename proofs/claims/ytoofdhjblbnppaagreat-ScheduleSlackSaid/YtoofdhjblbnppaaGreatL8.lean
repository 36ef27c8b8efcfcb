/-
  My walk's base, part 9: a region that draws its order, some of whose operations take what is owned outside.
-/
import Derived.Test.YtoofdhjblbnppaaGreatL6
namespace Go.Pw
def RR.own0 (L0 : List Res) : RR := ⟨true, fun _ _ L => L = L0, fun _ h => h, fun h => by cases h⟩
section
variable {P : Program} {N : Nat} {Q : Post} {f : Fr} {w w0 : World} {s : PHeap} {H Hs : List Res}
theorem St.rows_unsplit {α : Type} {E : Enc α} {Te : TypeId} {hs : List Value} {xss : List (List α)} {i : Nat} {h : Value} {xs : List α} (hS : St w0 s (.arr E Te h xs :: .rows E Te (hs.eraseIdx i) (xss.eraseIdx i) :: H) w) (hh : hs[i]? = some h) (hx : xss[i]? = some xs) :
    St w0 s (.rows E Te hs xss :: H) w := by
  obtain ⟨hi, hv⟩ := List.getElem?_eq_some_iff.1 hx
  have := hS.rows_back hh hi
  rwa [← hv, List.set_getElem_self] at this
end
end Go.Pw
