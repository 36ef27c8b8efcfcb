/-
  The statement on the systems of variables, in plain Lean: it holds of every task.
-/
import Derived.Test.YtdhfofhginfdnaaAtRa
import Derived.Test.YtdhfofhginfdnaaAtG
set_option maxHeartbeats 4000000
set_option linter.unusedSimpArgs false
set_option linter.unusedVariables false
namespace Go.Pw
theorem law_ok (t : Task) (v : Int) (hn : ∀ o ∈ t.Ops, o.Name.size ≤ maxLen) : law44_TransysAtomic_p t v = some true := by
  classical
  have hn' : ∀ o ∈ t.Ops, o.Name.size ≤ 9223372036854775807 := hn
  unfold law44_TransysAtomic_p
  simp only [awake_ok, Option.bind_some, Bool.not_true, Bool.false_eq_true, if_false]
  by_cases h1 : 12 < (t.Vars.length : Int)
  · simp [h1]
  by_cases h2 : 20 < (t.Ops.length : Int)
  · simp [h1, h2]
  simp only [h1, h2, decide_false, Bool.false_eq_true, if_false, Option.bind_some]
  obtain ⟨⟨e, x⟩, hr, g1, g2⟩ := atomic_ok (t := t) (v := v) hn'
  simp only at g1 g2
  rw [hr]
  simp only [Option.bind_some, un2, tGood]
  by_cases h3 : GoodT t ∧ 0 ≤ v ∧ v < (t.Vars.length : Int)
  · have a1 : ¬ v < 0 := by omega
    have a2 : ¬ (t.Vars.length : Int) ≤ v := by omega
    simp only [h3.1, a1, a2, decide_true, decide_false, Bool.not_true, Bool.false_eq_true, if_false, Option.bind_some, small_ok]
    by_cases h4 : SmallT t
    · simp only [h4, decide_true, Bool.not_true, Bool.false_eq_true, if_false]
      rcases g1 h3 with ⟨rfl, hx⟩ | ⟨_, _, hno⟩
      · obtain ⟨y, hy, hy2⟩ := refAtomic_ok h4 h3.2.1 h3.2.2
        have := hx.uniq hy2
        subst this
        simp [hy, Same_p]
      · exact absurd (h4.room h3.2.1 h3.2.2) hno
    · simp [h4]
  · obtain ⟨b1, rfl⟩ := g2 h3
    have hz : (if (!decide (GoodT t)) = true then some true else if decide (v < 0) = true then some true else some (decide ((t.Vars.length : Int) ≤ v))) = some true := by
      by_cases c1 : GoodT t
      · by_cases c2 : v < 0
        · simp [c1, c2]
        · have c3 : (t.Vars.length : Int) ≤ v := by
            by_cases c3 : (t.Vars.length : Int) ≤ v
            · exact c3
            · exact absurd ⟨c1, by omega, by omega⟩ h3
          simp [c1, c2, c3]
      · simp [c1]
    rw [hz]
    simp [b1, Same_p]
end Go.Pw
