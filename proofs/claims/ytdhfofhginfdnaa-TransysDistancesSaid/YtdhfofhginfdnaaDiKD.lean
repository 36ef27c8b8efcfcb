/-
  The statement on distances, in plain Lean: it holds of every system.
-/
import Derived.Test.YtdhfofhginfdnaaDiK
set_option maxHeartbeats 4000000
set_option linter.unusedSimpArgs false
set_option linter.unusedVariables false
namespace Go.Pw
theorem law_ok (x : System) : law44_TransysDistances_p x = some true := by
  unfold law44_TransysDistances_p
  obtain ⟨b, hb, _⟩ := large_ok x
  simp only [awake_ok, hb, rV, Option.bind_some, Bool.not_true, Bool.false_eq_true, if_false]
  cases b with
  | true => simp
  | false =>
    simp only [Bool.false_eq_true, if_false, Option.bind_some]
    by_cases hv : VSys x
    · have v := valB_iff.2 hv
      simp only [v, Bool.not_true, Bool.false_eq_true, if_false]
      obtain ⟨⟨d, e⟩, hd, h1, h2⟩ := dist_ok hv
      obtain ⟨⟨c, e'⟩, hc, h3, h4⟩ := costs_ok hv
      simp only at h1 h2 h3 h4
      subst h1 h3
      obtain ⟨d', hd', h5⟩ := refDist_ok hv.ws
      obtain ⟨c', hc', h6⟩ := refCosts_ok hv
      have e1 := h2.uniq (aokT hv) h5
      have e2 := h4.uniq (aokF hv) h6
      subst e1 e2
      simp [hd, hc, hd', hc', un2, Ints_p]
    · have v : valB x = false := by
        cases h : valB x with
        | false => rfl
        | true => exact absurd (valB_iff.1 h) hv
      simp [v]
end Go.Pw
