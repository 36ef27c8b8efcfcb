/-
  Plain Lean: loops with a counter of their own. No program in sight.
-/
import Derived.Test.YtkfcbmecmdpilaaB0
set_option maxHeartbeats 4000000
set_option linter.unusedSimpArgs false
set_option linter.unusedVariables false
namespace Go.Pw
/-- A loop that counts up to n and looks whether all is right. -/
theorem while_all {R β : Type} {B : Int → Option (Ctl Int R)} {r : R} {p : Nat → Bool} {n : Nat} {kr : R → Option β} {k : Int → Option β}
    (h : ∀ j : Nat, j < n → B (j : Int) = some (if p j then .next ((j + 1 : Nat) : Int) else .ret r)) (hb : B (n : Int) = some (.brk (n : Int))) :
    ctl (whileC B 0) kr k = if (List.range n).all p then k (n : Int) else kr r := by
  by_cases hall : (List.range n).all p = true
  · rw [if_pos hall]
    have hp : ∀ j, j < n → p j = true := fun j hj => List.all_eq_true.1 hall j (List.mem_range.2 hj)
    have key : ∀ m j : Nat, j + m = n → whileC B (j : Int) = some (.brk (n : Int)) := by
      intro m
      induction m with
      | zero => intro j hj; obtain rfl : j = n := by omega
                exact whileC_stop hb (by intro s e; cases e)
      | succ m ih =>
        intro j hj
        have := h j (by omega)
        rw [hp j (by omega), if_pos rfl] at this
        rw [whileC_next this]
        exact ih (j + 1) (by omega)
    unfold ctl
    have := key n 0 (by omega)
    simp only [Int.natCast_zero] at this
    rw [this]
    rfl
  · rw [if_neg hall]
    have : ∃ i, i < n ∧ p i = false ∧ ∀ j, j < i → p j = true := by
      have hex : ∃ i, i < n ∧ p i = false := by
        have : ¬ ∀ x ∈ List.range n, p x = true := fun h => hall (List.all_eq_true.2 h)
        apply Classical.byContradiction
        intro hno
        apply this
        intro x hx
        cases hpx : p x with
        | true => rfl
        | false => exact absurd ⟨x, List.mem_range.1 hx, hpx⟩ hno
      obtain ⟨i, hi, hpi⟩ := hex
      induction i using Nat.strongRecOn with
      | _ i ih =>
        by_cases hh : ∀ j, j < i → p j = true
        · exact ⟨i, hi, hpi, hh⟩
        · have : ∃ j, j < i ∧ p j = false := by
            apply Classical.byContradiction
            intro hno
            apply hh
            intro j hj
            cases hpj : p j with
            | true => rfl
            | false => exact absurd ⟨j, hj, hpj⟩ hno
          obtain ⟨j, hj, hpj⟩ := this
          exact ih j hj (by omega) hpj
    obtain ⟨i, hi, hpi, hlt⟩ := this
    have key : ∀ m j : Nat, j + m = i → whileC B (j : Int) = some (.ret r) := by
      intro m
      induction m with
      | zero =>
        intro j hj
        obtain rfl : j = i := by omega
        have := h j hi
        rw [hpi] at this
        exact whileC_stop (by simpa using this) (by intro s e; cases e)
      | succ m ih =>
        intro j hj
        have := h j (by omega)
        rw [hlt j (by omega), if_pos rfl] at this
        rw [whileC_next this]
        exact ih (j + 1) (by omega)
    unfold ctl
    have := key i 0 (by omega)
    simp only [Int.natCast_zero] at this
    rw [this]
    rfl
/-- A loop that counts up to n, with a state beside. -/
theorem Ok.whileN {S R β : Type} {B : Int × S → Option (Ctl (Int × S) R)} {n : Nat} {s : S} {Q : β → Prop} {kr : R → Option β} {k : Int × S → Option β} (Inv : Nat → S → Prop) (Rp : R → Prop) (h0 : Inv 0 s)
    (h : ∀ (j : Nat) (s : S), j < n → Inv j s → Ok (B ((j : Int), s)) fun c => match c with | .next q => q.1 = ((j + 1 : Nat) : Int) ∧ Inv (j + 1) q.2 | .brk _ => False | .ret r => Rp r)
    (hb : ∀ s, Inv n s → B ((n : Int), s) = some (.brk ((n : Int), s)))
    (hr : ∀ r, Rp r → Ok (kr r) Q) (hk : ∀ s, Inv n s → Ok (k ((n : Int), s)) Q) : Ok (Go.Pw.ctl (whileC B (0, s)) kr k) Q := by
  refine Ok.while (fun q => ∃ j : Nat, q.1 = (j : Int) ∧ j ≤ n ∧ Inv j q.2) (fun q => q.1 = (n : Int) ∧ Inv n q.2) Rp (fun q => n - q.1.toNat) ⟨0, rfl, Nat.zero_le _, h0⟩ ?_ hr ?_
  · rintro ⟨i, s⟩ ⟨j, hj, hle, hI⟩
    simp only at hj hI
    subst hj
    by_cases hlt : j < n
    · obtain ⟨c, hc, hP⟩ := h j s hlt hI
      refine ⟨c, hc, ?_, ?_, ?_⟩
      · rintro ⟨i', s'⟩ rfl
        simp only at hP
        refine ⟨⟨j + 1, hP.1, hlt, hP.2⟩, ?_⟩
        simp only [hP.1]
        omega
      · rintro s' rfl; exact hP.elim
      · rintro r rfl; exact hP
    · obtain rfl : j = n := by omega
      refine ⟨_, hb s hI, fun s' e => (by cases e), fun s' e => ?_, fun r e => (by cases e)⟩
      cases e; exact ⟨rfl, hI⟩
  · rintro ⟨i, s⟩ ⟨hi, hI⟩
    simp only at hi hI
    subst hi
    exact hk s hI
end Go.Pw
