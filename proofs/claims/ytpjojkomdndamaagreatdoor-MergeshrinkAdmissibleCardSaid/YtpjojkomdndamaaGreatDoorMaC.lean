/- -/
import Derived.Test.YtpjojkomdndamaaGreatDoorMaP
set_option maxHeartbeats 4000000
set_option linter.unusedSimpArgs false
set_option linter.unusedVariables false
namespace Go.Pw
theorem QnC (a b : Int) : Qr a b = Qb3 a b := by
 have h : Kp a b = some (Qb3 a b) := by
  simp [Kp, Yi, Qb3]
  have e : ∀ x, Jh x = false := by
   intro x
   have h1 := Yi x
   unfold Yd at h1
   simpa using (Zu h1).symm
  simp only [e]
  by_cases h1 : a < b <;> by_cases h2 : b < a <;> simp [h1, h2]
 rw [Jr] at h
 exact Zu h
theorem QeJ (a b : Edge) : Kv a b = some (Qbg a b) := by
 unfold Kv KS
 simp only [QnC]
 show (ctl (JU _ 3 0 ()) _ _).bind _ = _
 simp only [JU, Ja, ctl]
 unfold Qbg
 by_cases h1 : Qb3 a.From b.From = 0
 ·by_cases h2 : Qb3 a.Label b.Label = 0
  ·by_cases h3 : Qb3 a.To b.To = 0 <;> simp [h1, h2, h3]
  ·simp [h1, h2]
 ·simp [h1]
theorem Qkt (a b : Edge) : Qa3 a b = some (Qbg a b) := QeJ a b
theorem Ql4 (a b : Arr2_int) : Yh a b = some (Qf5 a b) := by
 unfold Yh KS
 simp only [QnC]
 show (ctl (JU _ 2 0 ()) _ _).bind _ = _
 simp only [JU, Ja, ctl]
 unfold Qf5
 by_cases h1 : Qb3 a.a0 b.a0 = 0
 ·by_cases h2 : Qb3 a.a1 b.a1 = 0 <;> simp [h1, h2]
 ·simp [h1]
theorem Qar (a b : Edge) : Qbg a b < 0 ↔ a.From < b.From ∨ a.From = b.From ∧ (a.Label < b.Label ∨ a.Label = b.Label ∧ a.To < b.To) := by
 unfold Qbg
 by_cases h1 : a.From = b.From
 ·have e1 := (Qb0 a.From b.From).2 h1
  rw [if_neg (by simp [e1])]
  by_cases h2 : a.Label = b.Label
  ·have e2 := (Qb0 a.Label b.Label).2 h2
   rw [if_neg (by simp [e2]), QcV]
   omega
  ·have e2 : Qb3 a.Label b.Label ≠ 0 := fun h => h2 ((Qb0 _ _).1 h)
   rw [if_pos e2, QcV]
   omega
 ·have e1 : Qb3 a.From b.From ≠ 0 := fun h => h1 ((Qb0 _ _).1 h)
  rw [if_pos e1, QcV]
  omega
theorem Qb8 (a b : Arr2_int) : Qf5 a b < 0 ↔ a.a0 < b.a0 ∨ a.a0 = b.a0 ∧ a.a1 < b.a1 := by
 unfold Qf5
 by_cases h1 : a.a0 = b.a0
 ·have e1 := (Qb0 a.a0 b.a0).2 h1
  rw [if_neg (by simp [e1]), QcV]
  omega
 ·have e1 : Qb3 a.a0 b.a0 ≠ 0 := fun h => h1 ((Qb0 _ _).1 h)
  rw [if_pos e1, QcV]
  omega
end Go.Pw
