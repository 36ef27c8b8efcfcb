/- -/
import Derived.Test.YtpjojkomdndamaaGreatDoorMxP
set_option maxHeartbeats 4000000
set_option linter.unusedSimpArgs false
set_option linter.unusedVariables false
namespace Go.Pw
theorem Qnw (a b : Int) : Qp a b = Qby a b := by
 have h : Kp a b = some (Qby a b) := by
  simp [Kp, Yf, Qby]
  have e : ∀ x, Jh x = false := by
   intro x
   have h1 := Yf x
   unfold Ya at h1
   simpa using (Zu h1).symm
  simp only [e]
  by_cases h1 : a < b <;> by_cases h2 : b < a <;> simp [h1, h2]
 rw [Jr] at h
 exact Zu h
theorem QeD (a b : Edge) : Ku a b = some (Qbc a b) := by
 unfold Ku KP
 simp only [Qnw]
 show (ctl (JR _ 3 0 ()) _ _).bind _ = _
 simp only [JR, Ja, ctl]
 unfold Qbc
 by_cases h1 : Qby a.From b.From = 0
 ·by_cases h2 : Qby a.Label b.Label = 0
  ·by_cases h3 : Qby a.To b.To = 0 <;> simp [h1, h2, h3]
  ·simp [h1, h2]
 ·simp [h1]
theorem Qkh (a b : Edge) : Qaz a b = some (Qbc a b) := QeD a b
theorem Qlr (a b : Arr2_int) : Ye a b = some (Qf3 a b) := by
 unfold Ye KP
 simp only [Qnw]
 show (ctl (JR _ 2 0 ()) _ _).bind _ = _
 simp only [JR, Ja, ctl]
 unfold Qf3
 by_cases h1 : Qby a.a0 b.a0 = 0
 ·by_cases h2 : Qby a.a1 b.a1 = 0 <;> simp [h1, h2]
 ·simp [h1]
theorem Qao (a b : Edge) : Qbc a b < 0 ↔ a.From < b.From ∨ a.From = b.From ∧ (a.Label < b.Label ∨ a.Label = b.Label ∧ a.To < b.To) := by
 unfold Qbc
 by_cases h1 : a.From = b.From
 ·have e1 := (Qbw a.From b.From).2 h1
  rw [if_neg (by simp [e1])]
  by_cases h2 : a.Label = b.Label
  ·have e2 := (Qbw a.Label b.Label).2 h2
   rw [if_neg (by simp [e2]), QcS]
   omega
  ·have e2 : Qby a.Label b.Label ≠ 0 := fun h => h2 ((Qbw _ _).1 h)
   rw [if_pos e2, QcS]
   omega
 ·have e1 : Qby a.From b.From ≠ 0 := fun h => h1 ((Qbw _ _).1 h)
  rw [if_pos e1, QcS]
  omega
theorem Qb4 (a b : Arr2_int) : Qf3 a b < 0 ↔ a.a0 < b.a0 ∨ a.a0 = b.a0 ∧ a.a1 < b.a1 := by
 unfold Qf3
 by_cases h1 : a.a0 = b.a0
 ·have e1 := (Qbw a.a0 b.a0).2 h1
  rw [if_neg (by simp [e1]), QcS]
  omega
 ·have e1 : Qby a.a0 b.a0 ≠ 0 := fun h => h1 ((Qbw _ _).1 h)
  rw [if_pos e1, QcS]
  omega
end Go.Pw
