/- -/
import Derived.Test.YtcpkjkmbdolfnaaGreatDoorMbP
set_option maxHeartbeats 4000000
set_option linter.unusedSimpArgs false
set_option linter.unusedVariables false
namespace Go.Pw
theorem Qou (a b : Int) : Qk a b = QbE a b := by
 have h : Kd a b = some (QbE a b) := by
  simp [Kd, Yf, QbE]
  have e : ∀ x, Ju x = false := by
   intro x
   have h1 := Yf x
   unfold Yb at h1
   simpa using (Zu h1).symm
  simp only [e]
  by_cases h1 : a < b <;> by_cases h2 : b < a <;> simp [h1, h2]
 rw [Jd] at h
 exact Zu h
theorem Qfn (a b : Edge) : Kk a b = some (Qbv a b) := by
 unfold Kk KQ
 simp only [Qou]
 show (ctl (Js _ 3 0 ()) _ _).bind _ = _
 simp only [Js, Qz, ctl]
 unfold Qbv
 by_cases h1 : QbE a.From b.From = 0
 ·by_cases h2 : QbE a.Label b.Label = 0
  ·by_cases h3 : QbE a.To b.To = 0 <;> simp [h1, h2, h3]
  ·simp [h1, h2]
 ·simp [h1]
theorem Qlm (a b : Edge) : QaD a b = some (Qbv a b) := Qfn a b
theorem Qmu (a b : Arr2_int) : Ye a b = some (Qgf a b) := by
 unfold Ye KQ
 simp only [Qou]
 show (ctl (Js _ 2 0 ()) _ _).bind _ = _
 simp only [Js, Qz, ctl]
 unfold Qgf
 by_cases h1 : QbE a.a0 b.a0 = 0
 ·by_cases h2 : QbE a.a1 b.a1 = 0 <;> simp [h1, h2]
 ·simp [h1]
theorem Qa2 (a b : Edge) : Qbv a b < 0 ↔ a.From < b.From ∨ a.From = b.From ∧ (a.Label < b.Label ∨ a.Label = b.Label ∧ a.To < b.To) := by
 unfold Qbv
 by_cases h1 : a.From = b.From
 ·have e1 := (QbD a.From b.From).2 h1
  rw [if_neg (by simp [e1])]
  by_cases h2 : a.Label = b.Label
  ·have e2 := (QbD a.Label b.Label).2 h2
   rw [if_neg (by simp [e2]), Qdb]
   omega
  ·have e2 : QbE a.Label b.Label ≠ 0 := fun h => h2 ((QbD _ _).1 h)
   rw [if_pos e2, Qdb]
   omega
 ·have e1 : QbE a.From b.From ≠ 0 := fun h => h1 ((QbD _ _).1 h)
  rw [if_pos e1, Qdb]
  omega
theorem QbI (a b : Arr2_int) : Qgf a b < 0 ↔ a.a0 < b.a0 ∨ a.a0 = b.a0 ∧ a.a1 < b.a1 := by
 unfold Qgf
 by_cases h1 : a.a0 = b.a0
 ·have e1 := (QbD a.a0 b.a0).2 h1
  rw [if_neg (by simp [e1]), Qdb]
  omega
 ·have e1 : QbE a.a0 b.a0 ≠ 0 := fun h => h1 ((QbD _ _).1 h)
  rw [if_pos e1, Qdb]
  omega
end Go.Pw
