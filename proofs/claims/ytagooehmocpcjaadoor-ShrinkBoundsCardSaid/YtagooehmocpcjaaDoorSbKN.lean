/-
  The statement on bounds, in plain Lean: it holds of every system and every list.
-/
import Derived.Test.YtagooehmocpcjaaDoorSbBd
set_option maxHeartbeats 4000000
set_option linter.unusedSimpArgs false
set_option linter.unusedVariables false
namespace Go.Pw
theorem quot_same (x : System) (c : List Int) : shrink_Quotient_p x c = shrink_Quotient_o_p x c := rfl
theorem bounded_same (x : System) (c : List Int) : law45_bounded_p x c = law45_bounded_o_p x c := rfl
theorem bounds_law (x : System) (c : List Int) : law45_ShrinkBounds_p x c = some true := by
  unfold law45_ShrinkBounds_p
  obtain ⟨b, hb, hb2⟩ := large_ok x
  simp only [awake_ok, hb, Option.bind_some, Bool.not_true, Bool.false_eq_true, if_false]
  cases b with
  | true => simp
  | false =>
    simp only [Bool.false_eq_true, if_false, Option.bind_some]
    by_cases hl : 50 < (c.length : Int)
    · simp [hl]
    · simp only [hl, decide_false, Bool.false_eq_true, if_false, quot_same, bounded_same]
      by_cases h : VSys x ∧ ∃ K, KOK c x.States.toNat K
      · obtain ⟨hv, K, hK⟩ := h
        obtain ⟨⟨e, y⟩, h1, h2, h3⟩ := quot_ok hv hK
        simp only at h2
        subst h2
        rw [h1, bounded_ok hv hK]
        simp [un2]
      · rw [quot_bad h (by omega)]
        simp [un2, is_some]
end Go.Pw
