/-
  The order of edges, in plain Lean.
-/
import Derived.Test.YtdhfofhginfdnaaWhP
set_option maxHeartbeats 4000000
set_option linter.unusedSimpArgs false
set_option linter.unusedVariables false
namespace Go.Pw
theorem cmpC (a b : Int) : cmp_Compare_int__t a b = cmpI a b := by
  have h : cmp_Compare_int__p a b = some (cmpI a b) := by
    simp [cmp_Compare_int__p, cmp_isNaN_int__tot, cmpI]
    have e : ∀ x, cmp_isNaN_int__t x = false := by
      intro x
      have h1 := cmp_isNaN_int__tot x
      unfold cmp_isNaN_int__p at h1
      simpa using (Zu h1).symm
    simp only [e]
    by_cases h1 : a < b <;> by_cases h2 : b < a <;> simp [h1, h2]
  rw [cmp_Compare_int__tot] at h
  exact Zu h
theorem compare_p (a b : Edge) : transys_compare_p a b = some (cmpE a b) := by
  unfold transys_compare_p cmp_Or_int__p
  simp only [cmpC]
  show (ctl (forC _ 3 0 ()) _ _).bind _ = _
  simp only [forC, idx, ctl]
  unfold cmpE
  by_cases h1 : cmpI a.From b.From = 0
  · by_cases h2 : cmpI a.Label b.Label = 0
    · by_cases h3 : cmpI a.To b.To = 0 <;> simp [h1, h2, h3]
    · simp [h1, h2]
  · simp [h1]
theorem cmpI_neg (a b : Int) : cmpI a b < 0 ↔ a < b := by
  unfold cmpI
  by_cases h1 : a < b <;> by_cases h2 : b < a <;> simp [h1, h2]
theorem cmpI_zero (a b : Int) : cmpI a b = 0 ↔ a = b := by
  unfold cmpI
  by_cases h1 : a < b <;> by_cases h2 : b < a <;> simp [h1, h2] <;> omega
theorem cmpE_neg (a b : Edge) : cmpE a b < 0 ↔ a.From < b.From ∨ a.From = b.From ∧ (a.Label < b.Label ∨ a.Label = b.Label ∧ a.To < b.To) := by
  unfold cmpE
  by_cases h1 : a.From = b.From
  · have e1 := (cmpI_zero a.From b.From).2 h1
    rw [if_neg (by simp [e1])]
    by_cases h2 : a.Label = b.Label
    · have e2 := (cmpI_zero a.Label b.Label).2 h2
      rw [if_neg (by simp [e2]), cmpI_neg]
      omega
    · have e2 : cmpI a.Label b.Label ≠ 0 := fun h => h2 ((cmpI_zero _ _).1 h)
      rw [if_pos e2, cmpI_neg]
      omega
  · have e1 : cmpI a.From b.From ≠ 0 := fun h => h1 ((cmpI_zero _ _).1 h)
    rw [if_pos e1, cmpI_neg]
    omega
end Go.Pw
