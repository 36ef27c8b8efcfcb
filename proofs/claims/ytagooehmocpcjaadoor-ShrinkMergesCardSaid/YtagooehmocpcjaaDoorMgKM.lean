/-
  The statement on merging, in plain Lean: it holds of every system.
-/
import Derived.Test.YtagooehmocpcjaaDoorMgA
set_option maxHeartbeats 4000000
set_option linter.unusedSimpArgs false
set_option linter.unusedVariables false
namespace Go.Pw
theorem merge_law (x : System) (most : Int) : law45_ShrinkMerges_p x most = some true := by
  unfold law45_ShrinkMerges_p
  obtain ⟨b, hb, hb2⟩ := large_ok x
  simp only [awake_ok, hb, rV, Option.bind_some, Bool.not_true, Bool.false_eq_true, if_false]
  cases b with
  | true => simp
  | false =>
    simp only [Bool.false_eq_true, if_false, Option.bind_some]
    obtain ⟨g1, g2, g3, g4⟩ := hb2 rfl
    by_cases hv : VSys x
    · obtain ⟨c, h1, h2⟩ := merge_eq hv (by have := g1 hv; omega) (by omega) most
      rw [h1]
      simp [un2, valB_iff.2 hv, h2, Ints_o_o]
    · have h1 : shrink_Merge_p x most = some ([], some 2) := by
        unfold shrink_Merge_p shrink_Bisimulation_p
        simp [tV, vnot hv, un2]
      rw [h1]
      simp [un2, vnot hv, is_some]
end Go.Pw
