/- -/
import Derived.Test.YtpjojkomdndamaaGreatDoorMxP
set_option maxHeartbeats 4000000
set_option linter.unusedSimpArgs false
set_option linter.unusedVariables false
namespace Go.Pw
theorem Qn7 (a b : Int) : Qq a b = Qb3 a b := by
 have h : Ko a b = some (Qb3 a b) := by
  simp [Ko, Yg, Qb3]
  have e : ∀ x, Jf x = false := by
   intro x
   have h1 := Yg x
   unfold Yc at h1
   simpa using (Zu h1).symm
  simp only [e]
  by_cases h1 : a < b <;> by_cases h2 : b < a <;> simp [h1, h2]
 rw [Jq] at h
 exact Zu h
theorem QeI (a b : Edge) : Kt a b = some (Qbh a b) := by
 unfold Kt KR
 simp only [Qn7]
 show (ctl (JP _ 3 0 ()) _ _).bind _ = _
 simp only [JP, QZ, ctl]
 unfold Qbh
 by_cases h1 : Qb3 a.From b.From = 0
 ·by_cases h2 : Qb3 a.Label b.Label = 0
  ·by_cases h3 : Qb3 a.To b.To = 0 <;> simp [h1, h2, h3]
  ·simp [h1, h2]
 ·simp [h1]
theorem Qkt (a b : Edge) : Qa1 a b = some (Qbh a b) := QeI a b
theorem Ql3 (a b : Arr2_int) : Yf a b = some (Qf5 a b) := by
 unfold Yf KR
 simp only [Qn7]
 show (ctl (JP _ 2 0 ()) _ _).bind _ = _
 simp only [JP, QZ, ctl]
 unfold Qf5
 by_cases h1 : Qb3 a.a0 b.a0 = 0
 ·by_cases h2 : Qb3 a.a1 b.a1 = 0 <;> simp [h1, h2]
 ·simp [h1]
theorem Qaq (a b : Edge) : Qbh a b < 0 ↔ a.From < b.From ∨ a.From = b.From ∧ (a.Label < b.Label ∨ a.Label = b.Label ∧ a.To < b.To) := by
 unfold Qbh
 by_cases h1 : a.From = b.From
 ·have e1 := (Qb0 a.From b.From).2 h1
  rw [if_neg (by simp [e1])]
  by_cases h2 : a.Label = b.Label
  ·have e2 := (Qb0 a.Label b.Label).2 h2
   rw [if_neg (by simp [e2]), QcU]
   omega
  ·have e2 : Qb3 a.Label b.Label ≠ 0 := fun h => h2 ((Qb0 _ _).1 h)
   rw [if_pos e2, QcU]
   omega
 ·have e1 : Qb3 a.From b.From ≠ 0 := fun h => h1 ((Qb0 _ _).1 h)
  rw [if_pos e1, QcU]
  omega
theorem Qb8 (a b : Arr2_int) : Qf5 a b < 0 ↔ a.a0 < b.a0 ∨ a.a0 = b.a0 ∧ a.a1 < b.a1 := by
 unfold Qf5
 by_cases h1 : a.a0 = b.a0
 ·have e1 := (Qb0 a.a0 b.a0).2 h1
  rw [if_neg (by simp [e1]), QcU]
  omega
 ·have e1 : Qb3 a.a0 b.a0 ≠ 0 := fun h => h1 ((Qb0 _ _).1 h)
  rw [if_pos e1, QcU]
  omega
end Go.Pw
