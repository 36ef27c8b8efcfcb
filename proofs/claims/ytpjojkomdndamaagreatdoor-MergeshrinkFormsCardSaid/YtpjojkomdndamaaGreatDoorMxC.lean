/- -/
import Derived.Test.YtpjojkomdndamaaGreatDoorMxP
set_option maxHeartbeats 4000000
set_option linter.unusedSimpArgs false
set_option linter.unusedVariables false
namespace Go.Pw
theorem QnH (a b : Int) : Qp a b = QbB a b := by
 have h : K1 a b = some (QbB a b) := by
  simp [K1, Yt, QbB]
  have e : ∀ x, Jm x = false := by
   intro x
   have h1 := Yt x
   unfold Yo at h1
   simpa using (Zu h1).symm
  simp only [e]
  by_cases h1 : a < b <;> by_cases h2 : b < a <;> simp [h1, h2]
 rw [Jy] at h
 exact Zu h
theorem QeP (a b : Edge) : K8 a b = some (Qbs a b) := by
 unfold K8 Ye
 simp only [QnH]
 show (ctl (JS _ 3 0 ()) _ _).bind _ = _
 simp only [JS, Jc, ctl]
 unfold Qbs
 by_cases h1 : QbB a.From b.From = 0
 ·by_cases h2 : QbB a.Label b.Label = 0
  ·by_cases h3 : QbB a.To b.To = 0 <;> simp [h1, h2, h3]
  ·simp [h1, h2]
 ·simp [h1]
theorem Qk1 (a b : Edge) : QaA a b = some (Qbs a b) := QeP a b
theorem QlD (a b : Arr2_int) : Ys a b = some (QfB a b) := by
 unfold Ys Ye
 simp only [QnH]
 show (ctl (JS _ 2 0 ()) _ _).bind _ = _
 simp only [JS, Jc, ctl]
 unfold QfB
 by_cases h1 : QbB a.a0 b.a0 = 0
 ·by_cases h2 : QbB a.a1 b.a1 = 0 <;> simp [h1, h2]
 ·simp [h1]
theorem Qaz (a b : Edge) : Qbs a b < 0 ↔ a.From < b.From ∨ a.From = b.From ∧ (a.Label < b.Label ∨ a.Label = b.Label ∧ a.To < b.To) := by
 unfold Qbs
 by_cases h1 : a.From = b.From
 ·have e1 := (Qb9 a.From b.From).2 h1
  rw [if_neg (by simp [e1])]
  by_cases h2 : a.Label = b.Label
  ·have e2 := (Qb9 a.Label b.Label).2 h2
   rw [if_neg (by simp [e2]), Qdg]
   omega
  ·have e2 : QbB a.Label b.Label ≠ 0 := fun h => h2 ((Qb9 _ _).1 h)
   rw [if_pos e2, Qdg]
   omega
 ·have e1 : QbB a.From b.From ≠ 0 := fun h => h1 ((Qb9 _ _).1 h)
  rw [if_pos e1, Qdg]
  omega
theorem QbF (a b : Arr2_int) : QfB a b < 0 ↔ a.a0 < b.a0 ∨ a.a0 = b.a0 ∧ a.a1 < b.a1 := by
 unfold QfB
 by_cases h1 : a.a0 = b.a0
 ·have e1 := (Qb9 a.a0 b.a0).2 h1
  rw [if_neg (by simp [e1]), Qdg]
  omega
 ·have e1 : QbB a.a0 b.a0 ≠ 0 := fun h => h1 ((Qb9 _ _).1 h)
  rw [if_pos e1, Qdg]
  omega
end Go.Pw
