/-
  Systems that are compared.
-/
import Derived.Test.YtdhfofhginfdnaaAtS
set_option maxHeartbeats 4000000
set_option linter.unusedSimpArgs false
set_option linter.unusedVariables false
namespace Go.Pw
theorem eqs_edge (a b : Edge) : eqs [a.From, a.Label, a.To] [b.From, b.Label, b.To] = true ↔ a = b := by
  obtain ⟨a1, a2, a3⟩ := a
  obtain ⟨b1, b2, b3⟩ := b
  simp [eqs, Edge.mk.injEq]

open Classical in
theorem Same_p (x y : System) : ref44_Same_p x y = some (decide (x = y)) := by
  unfold ref44_Same_p
  obtain ⟨x1, x2, x3, x4, x5⟩ := x
  obtain ⟨y1, y2, y3, y4, y5⟩ := y
  simp only [System.mk.injEq, Ints_p, Option.bind_some]
  by_cases h1 : x1 = y1
  · by_cases h2 : x2 = y2
    · by_cases h3 : x3 = y3
      · by_cases h4 : x4.length = y4.length
        · by_cases h5 : x5.length = y5.length
          · simp only [h1, h2, h3, h4, h5, decide_true, Bool.not_true, Bool.false_eq_true, if_false, Option.bind_some]
            have e4 := fun k => eq_loop (β := Bool) (k := k) (fun (a b : Edge) => !(eqs [a.From, a.Label, a.To] [b.From, b.Label, b.To])) (fun a b => by
              rw [Bool.not_eq_true', ← Bool.not_eq_true, eqs_edge]) x4 y4 h4 (kr := fun r => some r)
            have e5 := fun k => eq_loop (β := Bool) (k := k) (fun (a b : Bool) => !(a == b)) (by simp) x5 y5 h5 (kr := fun r => some r)
            simp only [h4] at e4
            simp only [h5] at e5
            rw [e4, e5]
            by_cases g4 : x4 = y4 <;> by_cases g5 : x5 = y5 <;> simp [g4, g5]
          · have : x5 ≠ y5 := fun e => h5 (by rw [e])
            have h5' : ¬ ((x5.length : Int) = (y5.length : Int)) := by omega
            simp [h1, h2, h3, h4, h5', this]
        · have : x4 ≠ y4 := fun e => h4 (by rw [e])
          have h4' : ¬ ((x4.length : Int) = (y4.length : Int)) := by omega
          simp [h1, h2, h3, h4', this]
      · simp [h1, h2, h3]
    · simp [h1, h2]
  · simp [h1]

end Go.Pw
