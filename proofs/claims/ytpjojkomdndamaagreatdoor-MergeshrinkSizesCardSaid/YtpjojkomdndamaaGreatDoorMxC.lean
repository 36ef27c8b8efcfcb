/- -/
import Derived.Test.YtpjojkomdndamaaGreatDoorMxP
set_option maxHeartbeats 4000000
set_option linter.unusedSimpArgs false
set_option linter.unusedVariables false
namespace Go.Pw
theorem QnA (a b : Int) : Qp a b = Qby a b := by
 have h : Km a b = some (Qby a b) := by
  simp [Km, Yg, Qby]
  have e : ∀ x, Jf x = false := by
   intro x
   have h1 := Yg x
   unfold Yb at h1
   simpa using (Zu h1).symm
  simp only [e]
  by_cases h1 : a < b <;> by_cases h2 : b < a <;> simp [h1, h2]
 rw [Jr] at h
 exact Zu h
theorem QeH (a b : Edge) : Kt a b = some (Qbe a b) := by
 unfold Kt KR
 simp only [QnA]
 show (ctl (JU _ 3 0 ()) _ _).bind _ = _
 simp only [JU, QZ, ctl]
 unfold Qbe
 by_cases h1 : Qby a.From b.From = 0
 ·by_cases h2 : Qby a.Label b.Label = 0
  ·by_cases h3 : Qby a.To b.To = 0 <;> simp [h1, h2, h3]
  ·simp [h1, h2]
 ·simp [h1]
theorem Qks (a b : Edge) : Qay a b = some (Qbe a b) := QeH a b
theorem Ql3 (a b : Arr2_int) : Yf a b = some (Qf7 a b) := by
 unfold Yf KR
 simp only [QnA]
 show (ctl (JU _ 2 0 ()) _ _).bind _ = _
 simp only [JU, QZ, ctl]
 unfold Qf7
 by_cases h1 : Qby a.a0 b.a0 = 0
 ·by_cases h2 : Qby a.a1 b.a1 = 0 <;> simp [h1, h2]
 ·simp [h1]
theorem Qan (a b : Edge) : Qbe a b < 0 ↔ a.From < b.From ∨ a.From = b.From ∧ (a.Label < b.Label ∨ a.Label = b.Label ∧ a.To < b.To) := by
 unfold Qbe
 by_cases h1 : a.From = b.From
 ·have e1 := (Qbv a.From b.From).2 h1
  rw [if_neg (by simp [e1])]
  by_cases h2 : a.Label = b.Label
  ·have e2 := (Qbv a.Label b.Label).2 h2
   rw [if_neg (by simp [e2]), QcV]
   omega
  ·have e2 : Qby a.Label b.Label ≠ 0 := fun h => h2 ((Qbv _ _).1 h)
   rw [if_pos e2, QcV]
   omega
 ·have e1 : Qby a.From b.From ≠ 0 := fun h => h1 ((Qbv _ _).1 h)
  rw [if_pos e1, QcV]
  omega
theorem Qb4 (a b : Arr2_int) : Qf7 a b < 0 ↔ a.a0 < b.a0 ∨ a.a0 = b.a0 ∧ a.a1 < b.a1 := by
 unfold Qf7
 by_cases h1 : a.a0 = b.a0
 ·have e1 := (Qbv a.a0 b.a0).2 h1
  rw [if_neg (by simp [e1]), QcV]
  omega
 ·have e1 : Qby a.a0 b.a0 ≠ 0 := fun h => h1 ((Qbv _ _).1 h)
  rw [if_pos e1, QcV]
  omega
end Go.Pw
