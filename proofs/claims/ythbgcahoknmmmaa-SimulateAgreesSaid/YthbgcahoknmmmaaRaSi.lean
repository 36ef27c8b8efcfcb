/-
  P58.2: Validate and Run agree (plain).
-/
import Derived.Test.YthbgcahoknmmmaaRaSG
set_option linter.unusedVariables false
set_option linter.unusedSimpArgs false
namespace Go.Pw
theorem num_ok (e : Option Int) : base_Num_t e = e.getD 0 := by
  unfold base_Num_t; cases e <;> rfl
theorem law_hd {fu : Nat} (hfu : 1000 ≤ fu) {t : Temporal} {L : List Launch} {body : Option Bool} (h : Tight t → L.length ≤ 20 → body = some true) :
    (((law58_awake_p fu).bind fun (y100 : Bool) => if !y100 then (some true) else ((law58_few_p t L).bind <| fun (y101 : Bool) => some (!y101))).bind (fun (z100 : Bool) => if z100 then ((law58_awake_p fu).bind <| fun (y102 : Bool) => some y102) else body)) = some true := by
  rw [awake_ok hfu]
  obtain ⟨b, h1, h2⟩ := few_ok t L
  simp only [Option.bind_some, h1]
  cases b with
  | false => rfl
  | true =>
    obtain ⟨g1, g2⟩ := h2 rfl
    simpa using h g1 g2
theorem simulateAgrees_ok {fu : Nat} (hfu : 1000 ≤ fu) (t : Temporal) (L : List Launch) : law58_SimulateAgrees_p fu t L = some true := by
  unfold law58_SimulateAgrees_p
  refine law_hd hfu fun ht hn => ?_
  obtain ⟨r, h1, h2⟩ := Run_ok hfu ht (L := L) (by omega)
  rw [h1]
  rcases h2 with ⟨_, z, _, _, hv, rfl⟩ | h2
  · rw [hv]
    simp [un2]
  · obtain ⟨hA, T, hT, rfl⟩ := h2.few hn
    obtain ⟨v, hv, hs⟩ := Validate_s hA hT
    rw [hv]
    rcases hs with ⟨rfl, h⟩ | ⟨z, p, q, rfl, h, hk, _⟩
    · simp [un2, h]
    · simp only [un2, h, Option.bind_some, Option.isSome_none, Bool.false_eq_true, if_false, List.length_cons]
      rw [if_neg (by simp; omega)]
      simp [idx, num_ok, hk]
end Go.Pw
