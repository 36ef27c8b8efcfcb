/-
  P58.2: Validate and Run agree (plain).
-/
import Derived.Test.YthbgcahoknmmmaaRaSG
set_option linter.unusedVariables false
set_option linter.unusedSimpArgs false
namespace Go.Pw
theorem law_hd {fu : Nat} (hfu : 1000 ≤ fu) {t : Temporal} {L : List Launch} {body : Option Bool} (h : Tight t → L.length ≤ 20 → body = some true) :
    (((law58_awake_p fu).bind fun (y100 : Bool) => if !y100 then (some true) else ((law58_few_p t L).bind <| fun (y101 : Bool) => some (!y101))).bind (fun (z100 : Bool) => if z100 then ((law58_awake_p fu).bind <| fun (y102 : Bool) => some y102) else body)) = some true := by
  rw [awake_ok hfu]
  obtain ⟨b, h1, h2⟩ := few_ok t L
  simp only [Option.bind_some, h1]
  cases b with
  | false => rfl
  | true =>
    obtain ⟨g1, g2⟩ := h2 rfl
    simpa using h g1 g2
end Go.Pw
