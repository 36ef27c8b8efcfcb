/-
  The order of launches, in plain Lean.
-/
import Derived.Test.YtoofdhjblbnppaaGreatYzP
set_option maxHeartbeats 4000000
set_option linter.unusedSimpArgs false
set_option linter.unusedVariables false
namespace Go.Pw
theorem cmpC (a b : Int) : cmp_Compare_int_t a b = cmpI a b := by
  have h : cmp_Compare_int_p a b = some (cmpI a b) := by
    simp [cmp_Compare_int_p, cmp_isNaN_int_tot, cmpI]
    have e : ∀ x, cmp_isNaN_int_t x = false := by
      intro x
      have h1 := cmp_isNaN_int_tot x
      unfold cmp_isNaN_int_p at h1
      simpa using (Zu h1).symm
    simp only [e]
    by_cases h1 : a < b <;> by_cases h2 : b < a <;> simp [h1, h2]
  rw [cmp_Compare_int_tot] at h
  exact Zu h
theorem readc_p (a b : Launch) : schedule_read_c1_p a b = some (cmpL a b) := by
  unfold schedule_read_c1_p cmp_Or_int_p
  simp only [cmpC]
  show (ctl (forC _ 2 0 ()) _ _).bind _ = _
  simp only [forC, idx, ctl]
  unfold cmpL
  by_cases h1 : cmpI a.At b.At = 0
  · by_cases h2 : cmpI a.Job b.Job = 0 <;> simp [h1, h2]
  · simp [h1]
theorem cmpL_neg (a b : Launch) : cmpL a b < 0 ↔ a.At < b.At ∨ a.At = b.At ∧ a.Job < b.Job := by
  unfold cmpL
  by_cases h1 : a.At = b.At
  · have e1 := (cmpI_zero a.At b.At).2 h1
    rw [if_neg (by simp [e1]), cmpI_neg]
    omega
  · have e1 : cmpI a.At b.At ≠ 0 := fun h => h1 ((cmpI_zero _ _).1 h)
    rw [if_pos e1, cmpI_neg]
    omega
end Go.Pw
