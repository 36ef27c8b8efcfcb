/-
  Plain Lean: loops with a counter of their own. No program in sight.
-/
import Derived.Test.YtkfcbmecmdpilaaB0
set_option maxHeartbeats 4000000
set_option linter.unusedSimpArgs false
set_option linter.unusedVariables false
namespace Go.Pw
/-- A loop that counts up to n and looks whether all is right. -/
theorem while_all {R β : Type} {B : Int → Option (Ctl Int R)} {r : R} {p : Nat → Bool} {n : Nat} {kr : R → Option β} {k : Int → Option β}
    (h : ∀ j : Nat, j < n → B (j : Int) = some (if p j then .next ((j + 1 : Nat) : Int) else .ret r)) (hb : B (n : Int) = some (.brk (n : Int))) :
    ctl (whileC B 0) kr k = if (List.range n).all p then k (n : Int) else kr r := by
  by_cases hall : (List.range n).all p = true
  · rw [if_pos hall]
    have hp : ∀ j, j < n → p j = true := fun j hj => List.all_eq_true.1 hall j (List.mem_range.2 hj)
    have key : ∀ m j : Nat, j + m = n → whileC B (j : Int) = some (.brk (n : Int)) := by
      intro m
      induction m with
      | zero => intro j hj; obtain rfl : j = n := by omega
                exact whileC_stop hb (by intro s e; cases e)
      | succ m ih =>
        intro j hj
        have := h j (by omega)
        rw [hp j (by omega), if_pos rfl] at this
        rw [whileC_next this]
        exact ih (j + 1) (by omega)
    unfold ctl
    have := key n 0 (by omega)
    simp only [Int.natCast_zero] at this
    rw [this]
    rfl
  · rw [if_neg hall]
    have : ∃ i, i < n ∧ p i = false ∧ ∀ j, j < i → p j = true := by
      have hex : ∃ i, i < n ∧ p i = false := by
        have : ¬ ∀ x ∈ List.range n, p x = true := fun h => hall (List.all_eq_true.2 h)
        apply Classical.byContradiction
        intro hno
        apply this
        intro x hx
        cases hpx : p x with
        | true => rfl
        | false => exact absurd ⟨x, List.mem_range.1 hx, hpx⟩ hno
      obtain ⟨i, hi, hpi⟩ := hex
      induction i using Nat.strongRecOn with
      | _ i ih =>
        by_cases hh : ∀ j, j < i → p j = true
        · exact ⟨i, hi, hpi, hh⟩
        · have : ∃ j, j < i ∧ p j = false := by
            apply Classical.byContradiction
            intro hno
            apply hh
            intro j hj
            cases hpj : p j with
            | true => rfl
            | false => exact absurd ⟨j, hj, hpj⟩ hno
          obtain ⟨j, hj, hpj⟩ := this
          exact ih j hj (by omega) hpj
    obtain ⟨i, hi, hpi, hlt⟩ := this
    have key : ∀ m j : Nat, j + m = i → whileC B (j : Int) = some (.ret r) := by
      intro m
      induction m with
      | zero =>
        intro j hj
        obtain rfl : j = i := by omega
        have := h j hi
        rw [hpi] at this
        exact whileC_stop (by simpa using this) (by intro s e; cases e)
      | succ m ih =>
        intro j hj
        have := h j (by omega)
        rw [hlt j (by omega), if_pos rfl] at this
        rw [whileC_next this]
        exact ih (j + 1) (by omega)
    unfold ctl
    have := key i 0 (by omega)
    simp only [Int.natCast_zero] at this
    rw [this]
    rfl
end Go.Pw
