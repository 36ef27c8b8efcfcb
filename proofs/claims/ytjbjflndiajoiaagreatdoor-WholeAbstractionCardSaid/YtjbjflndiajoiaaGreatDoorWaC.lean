/- -/
import Derived.Test.YtjbjflndiajoiaaGreatDoorWaP
set_option maxHeartbeats 4000000
set_option linter.unusedSimpArgs false
set_option linter.unusedVariables false
namespace Go.Pw
theorem Qqe (a b : Int) : Qj a b = Qc7 a b := by
 have h : Kp a b = some (Qc7 a b) := by
  simp [Kp, Y9, Qc7]
  have e : ∀ x, Jy x = false := by
   intro x
   have h1 := Y9 x
   unfold Y2 at h1
   simpa using (Zu h1).symm
  simp only [e]
  by_cases h1 : a < b <;> by_cases h2 : b < a <;> simp [h1, h2]
 rw [Je] at h
 exact Zu h
theorem Qgn (a b : Edge) : K2 a b = some (Qck a b) := by
 unfold K2 Ym
 simp only [Qqe]
 show (ctl (Jf _ 3 0 ()) _ _).bind _ = _
 simp only [Jf, Q9, ctl]
 unfold Qck
 by_cases h1 : Qc7 a.From b.From = 0
 ·by_cases h2 : Qc7 a.Label b.Label = 0
  ·by_cases h3 : Qc7 a.To b.To = 0 <;> simp [h1, h2, h3]
  ·simp [h1, h2]
 ·simp [h1]
theorem Qmu (a b : Edge) : Qb0 a b = some (Qck a b) := Qgn a b
theorem QnI (a b : Arr2_int) : Y8 a b = some (Qhe a b) := by
 unfold Y8 Ym
 simp only [Qqe]
 show (ctl (Jf _ 2 0 ()) _ _).bind _ = _
 simp only [Jf, Q9, ctl]
 unfold Qhe
 by_cases h1 : Qc7 a.a0 b.a0 = 0
 ·by_cases h2 : Qc7 a.a1 b.a1 = 0 <;> simp [h1, h2]
 ·simp [h1]
theorem Qbk (a b : Edge) : Qck a b < 0 ↔ a.From < b.From ∨ a.From = b.From ∧ (a.Label < b.Label ∨ a.Label = b.Label ∧ a.To < b.To) := by
 unfold Qck
 by_cases h1 : a.From = b.From
 ·have e1 := (Qc4 a.From b.From).2 h1
  rw [if_neg (by simp [e1])]
  by_cases h2 : a.Label = b.Label
  ·have e2 := (Qc4 a.Label b.Label).2 h2
   rw [if_neg (by simp [e2]), Qeo]
   omega
  ·have e2 : Qc7 a.Label b.Label ≠ 0 := fun h => h2 ((Qc4 _ _).1 h)
   rw [if_pos e2, Qeo]
   omega
 ·have e1 : Qc7 a.From b.From ≠ 0 := fun h => h1 ((Qc4 _ _).1 h)
  rw [if_pos e1, Qeo]
  omega
theorem QcC (a b : Arr2_int) : Qhe a b < 0 ↔ a.a0 < b.a0 ∨ a.a0 = b.a0 ∧ a.a1 < b.a1 := by
 unfold Qhe
 by_cases h1 : a.a0 = b.a0
 ·have e1 := (Qc4 a.a0 b.a0).2 h1
  rw [if_neg (by simp [e1]), Qeo]
  omega
 ·have e1 : Qc7 a.a0 b.a0 ≠ 0 := fun h => h1 ((Qc4 _ _).1 h)
  rw [if_pos e1, Qeo]
  omega
end Go.Pw
