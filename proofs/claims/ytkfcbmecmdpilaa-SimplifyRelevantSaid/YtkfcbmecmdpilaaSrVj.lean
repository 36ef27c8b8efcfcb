/-
  The sample is awake, in plain Lean.
-/
import Derived.Test.YtkfcbmecmdpilaaSrVi
set_option maxHeartbeats 8000000
set_option maxRecDepth 100000
set_option linter.unusedSimpArgs false
set_option linter.unusedVariables false
namespace Go.Pw
abbrev aSets : simplify_sets := ⟨[true, true, false], [], false⟩
theorem sample_valid (fu : Nat) : ground_Valid_p fu law19_sample_t = some true := by with_unfolding_all rfl
theorem while_eval {S R β : Type} {B : S → Option (Ctl S R)} {s : S} {c : Ctl S R} {kr : R → Option β} {k : S → Option β} (n : Nat) (h : iterC B n s = some c) {r : Option β} (e : ctl (some c) kr k = r) : ctl (whileC B s) kr k = r := by
  rw [whileC_of h]; exact e
theorem sample_relevant (fu : Nat) : simplify_relevant_p fu law19_sample_t = some aSets := by
  unfold simplify_relevant_p
  apply Ok.eq
  refine Ok.step (a := [false, false, false]) (by with_unfolding_all rfl) ?_
  refine Ok.step (a := []) (by with_unfolding_all rfl) ?_
  refine Ok.step (a := (true, [false, true, false], [])) (by with_unfolding_all rfl) ?_
  refine Ok.of (while_eval (c := .brk (false, [true, true, false], [])) 5 (by with_unfolding_all rfl) (by with_unfolding_all rfl)) rfl
theorem awake_ok (fu : Nat) : law19_awake_p fu = some true := by
  unfold law19_awake_p simplify_Simplify_p
  rw [sample_valid, sample_relevant]
  with_unfolding_all rfl
end Go.Pw
