/- -/
import Derived.Test.YtpjojkomdndamaaGreatDoorMxP
set_option maxHeartbeats 4000000
set_option linter.unusedSimpArgs false
set_option linter.unusedVariables false
namespace Go.Pw
theorem QnA (a b : Int) : Qs a b = Qb6 a b := by
 have h : Ko a b = some (Qb6 a b) := by
  simp [Ko, Yk, Qb6]
  have e : ∀ x, Jg x = false := by
   intro x
   have h1 := Yk x
   unfold Ye at h1
   simpa using (Zu h1).symm
  simp only [e]
  by_cases h1 : a < b <;> by_cases h2 : b < a <;> simp [h1, h2]
 rw [Js] at h
 exact Zu h
theorem QeL (a b : Edge) : Kv a b = some (Qbi a b) := by
 unfold Kv KT
 simp only [QnA]
 show (ctl (JH _ 3 0 ()) _ _).bind _ = _
 simp only [JH, Ja, ctl]
 unfold Qbi
 by_cases h1 : Qb6 a.From b.From = 0
 ·by_cases h2 : Qb6 a.Label b.Label = 0
  ·by_cases h3 : Qb6 a.To b.To = 0 <;> simp [h1, h2, h3]
  ·simp [h1, h2]
 ·simp [h1]
theorem Qky (a b : Edge) : Qa5 a b = some (Qbi a b) := QeL a b
theorem Ql7 (a b : Arr2_int) : Yj a b = some (Qf8 a b) := by
 unfold Yj KT
 simp only [QnA]
 show (ctl (JH _ 2 0 ()) _ _).bind _ = _
 simp only [JH, Ja, ctl]
 unfold Qf8
 by_cases h1 : Qb6 a.a0 b.a0 = 0
 ·by_cases h2 : Qb6 a.a1 b.a1 = 0 <;> simp [h1, h2]
 ·simp [h1]
theorem Qat (a b : Edge) : Qbi a b < 0 ↔ a.From < b.From ∨ a.From = b.From ∧ (a.Label < b.Label ∨ a.Label = b.Label ∧ a.To < b.To) := by
 unfold Qbi
 by_cases h1 : a.From = b.From
 ·have e1 := (Qb4 a.From b.From).2 h1
  rw [if_neg (by simp [e1])]
  by_cases h2 : a.Label = b.Label
  ·have e2 := (Qb4 a.Label b.Label).2 h2
   rw [if_neg (by simp [e2]), QcU]
   omega
  ·have e2 : Qb6 a.Label b.Label ≠ 0 := fun h => h2 ((Qb4 _ _).1 h)
   rw [if_pos e2, QcU]
   omega
 ·have e1 : Qb6 a.From b.From ≠ 0 := fun h => h1 ((Qb4 _ _).1 h)
  rw [if_pos e1, QcU]
  omega
theorem QbC (a b : Arr2_int) : Qf8 a b < 0 ↔ a.a0 < b.a0 ∨ a.a0 = b.a0 ∧ a.a1 < b.a1 := by
 unfold Qf8
 by_cases h1 : a.a0 = b.a0
 ·have e1 := (Qb4 a.a0 b.a0).2 h1
  rw [if_neg (by simp [e1]), QcU]
  omega
 ·have e1 : Qb6 a.a0 b.a0 ≠ 0 := fun h => h1 ((Qb4 _ _).1 h)
  rw [if_pos e1, QcU]
  omega
end Go.Pw
