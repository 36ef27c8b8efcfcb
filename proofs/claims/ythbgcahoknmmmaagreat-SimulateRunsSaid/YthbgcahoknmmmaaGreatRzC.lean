/-
  The order of events, in plain Lean.
-/
import Derived.Test.YthbgcahoknmmmaaGreatRzP
set_option maxHeartbeats 4000000
set_option linter.unusedSimpArgs false
set_option linter.unusedVariables false
namespace Go.Pw
theorem cmpC (a b : Int) : cmp_Compare_int_t a b = cmpI a b := by
  have h : cmp_Compare_int_p a b = some (cmpI a b) := by
    simp [cmp_Compare_int_p, cmp_isNaN_int_tot, cmpI]
    have e : ∀ x, cmp_isNaN_int_t x = false := by
      intro x
      have h1 := cmp_isNaN_int_tot x
      unfold cmp_isNaN_int_p at h1
      simpa using (Zu h1).symm
    simp only [e]
    by_cases h1 : a < b <;> by_cases h2 : b < a <;> simp [h1, h2]
  rw [cmp_Compare_int_tot] at h
  exact Zu h
theorem rank_t (e : Bool) : simulate_rank_t e = if e then 0 else 1 := by unfold simulate_rank_t; cases e <;> rfl
theorem evc_p (a b : simulate_Event) : simulate_run_events_c1_p a b = some (cmpV a b) := by
  unfold simulate_run_events_c1_p cmp_Or_int_p
  simp only [cmpC, rank_t]
  show (ctl (forC _ 3 0 ()) _ _).bind _ = _
  simp only [forC, idx, ctl]
  unfold cmpV rkE
  by_cases h1 : cmpI a.At b.At = 0
  · by_cases h2 : cmpI (if a.End = true then 0 else 1) (if b.End = true then 0 else 1) = 0
    · by_cases h3 : cmpI a.Launch b.Launch = 0 <;> simp [h1, h2, h3]
    · simp [h1, h2]
  · simp [h1]
theorem cmpV_neg (a b : simulate_Event) : cmpV a b < 0 ↔ a.At < b.At ∨ a.At = b.At ∧ (rkE a < rkE b ∨ rkE a = rkE b ∧ a.Launch < b.Launch) := by
  unfold cmpV
  by_cases h1 : a.At = b.At
  · have e1 := (cmpI_zero a.At b.At).2 h1
    rw [if_neg (by simp [e1])]
    by_cases h2 : rkE a = rkE b
    · have e2 := (cmpI_zero (rkE a) (rkE b)).2 h2
      rw [if_neg (by simp [e2]), cmpI_neg]
      omega
    · have e2 : cmpI (rkE a) (rkE b) ≠ 0 := fun h => h2 ((cmpI_zero _ _).1 h)
      rw [if_pos e2, cmpI_neg]
      omega
  · have e1 : cmpI a.At b.At ≠ 0 := fun h => h1 ((cmpI_zero _ _).1 h)
    rw [if_pos e1, cmpI_neg]
    omega
theorem rkE_eq {a b : simulate_Event} (h : rkE a = rkE b) : a.End = b.End := by
  unfold rkE at h
  cases ha : a.End <;> cases hb : b.End <;> simp [ha, hb] at h <;> rfl
end Go.Pw
