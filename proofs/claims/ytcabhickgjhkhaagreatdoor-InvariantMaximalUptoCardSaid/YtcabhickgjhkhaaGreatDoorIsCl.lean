/-
  The order of lists of integers, in plain Lean.
-/
import Derived.Test.YtcabhickgjhkhaaGreatDoorIsP
import Derived.Test.YtcabhickgjhkhaaGreatDoorBB
set_option maxHeartbeats 4000000
set_option linter.unusedSimpArgs false
set_option linter.unusedVariables false
namespace Go.Pw
theorem cmpL_self : ∀ x, cmpL x x = 0
  | [] => rfl
  | x :: xs => by
    rw [cmpL, if_neg (Int.lt_irrefl x), if_neg (Int.lt_irrefl x)]
    exact cmpL_self xs
theorem cmpL_trans : ∀ x y z, cmpL x y < 0 → cmpL y z < 0 → cmpL x z < 0
  | [], [], _, h, _ => by simp [cmpL] at h
  | _ :: _, [], _, h, _ => by simp [cmpL] at h
  | [], _ :: _, [], _, h => by simp [cmpL] at h
  | _ :: _, _ :: _, [], _, h => by simp [cmpL] at h
  | [], _ :: _, _ :: _, _, _ => by simp [cmpL]
  | x :: xs, y :: ys, z :: zs, h1, h2 => by
    have ih := cmpL_trans xs ys zs
    simp only [cmpL] at h1 h2 ⊢
    (repeat' split at h1) <;> (repeat' split at h2) <;> (repeat' split) <;> first | omega | exact ih h1 h2
theorem cmpL_ntrans : ∀ x y z, ¬ cmpL x y < 0 → ¬ cmpL y z < 0 → ¬ cmpL x z < 0
  | [], [], z, _, h => h
  | _ :: _, [], [], _, _ => by simp [cmpL]
  | _ :: _, [], _ :: _, _, h => by simp [cmpL] at h
  | [], _ :: _, _, h, _ => by simp [cmpL] at h
  | _ :: _, _ :: _, [], _, _ => by simp [cmpL]
  | x :: xs, y :: ys, z :: zs, h1, h2 => by
    have ih := cmpL_ntrans xs ys zs
    simp only [cmpL] at h1 h2 ⊢
    (repeat' split at h1) <;> (repeat' split at h2) <;> (repeat' split) <;> first | omega | exact ih h1 h2
theorem cmpL_anti : ∀ x y, ¬ cmpL x y < 0 → ¬ cmpL y x < 0 → x = y
  | [], [], _, _ => rfl
  | [], _ :: _, h, _ => by simp [cmpL] at h
  | _ :: _, [], _, h => by simp [cmpL] at h
  | x :: xs, y :: ys, h1, h2 => by
    have ih := cmpL_anti xs ys
    simp only [cmpL] at h1 h2
    have e : x = y := by (repeat' split at h1) <;> (repeat' split at h2) <;> omega
    subst e
    rw [if_neg (Int.lt_irrefl x), if_neg (Int.lt_irrefl x)] at h1 h2
    rw [ih h1 h2]
theorem cmpt_val (x y : Int) : cmp_Compare_int_t x y = if x < y then -1 else if y < x then 1 else 0 := by
  have h := cmp_Compare_int_tot x y
  have h1 := cmp_isNaN_int_tot x
  have h2 := cmp_isNaN_int_tot y
  unfold cmp_isNaN_int_p at h1 h2
  unfold cmp_Compare_int_p at h
  rw [← Zu h1, ← Zu h2] at h
  simp only [decide_true, Bool.not_true, Bool.false_eq_true, if_false] at h
  have h3 := h.symm
  by_cases a : x < y
  · rw [if_pos (decide_eq_true a)] at h3; rw [if_pos a]; exact Zu h3
  · rw [if_neg (by simpa using a)] at h3
    rw [if_neg a]
    by_cases b : y < x
    · rw [if_pos (decide_eq_true b)] at h3; rw [if_pos b]; exact Zu h3
    · rw [if_neg (by simpa using b)] at h3; rw [if_neg b]; exact Zu h3
theorem cmpL_loop (s t : List Int) : ∀ (n i : Nat), i + n = s.length → ctl (forC (R := Int) (fun i100 => fun (_ : Unit) => (idx s (i100 : Int)).bind fun x100 =>
    if decide ((t.length : Int) ≤ (i100 : Int)) then (some (Ctl.ret 1))
    else ((idx t (i100 : Int)).bind fun x101 =>
    if !decide ((cmp_Compare_int_t x100 x101) = 0) then (some (Ctl.ret (cmp_Compare_int_t x100 x101)))
    else (some (Ctl.next ())))) n i ()) (fun r => some r) (fun (_ : Unit) => if decide ((s.length : Int) < (t.length : Int)) then (some (-1)) else (some 0)) = some (cmpL (s.drop i) (t.drop i))
  | 0, i, h => by
    rw [List.drop_of_length_le (l := s) (by omega)]
    show (if decide ((s.length : Int) < (t.length : Int)) = true then some (-1) else some (0 : Int)) = _
    by_cases hl : s.length < t.length
    · rw [if_pos (by simpa using hl), List.drop_eq_getElem_cons (l := t) (i := i) (by omega)]
      rfl
    · rw [if_neg (by simpa using hl), List.drop_of_length_le (l := t) (by omega)]
      rfl
  | n + 1, i, h => by
    have hi : i < s.length := by omega
    rw [forC, idx_nat, List.getElem?_eq_getElem hi, Option.bind_some, List.drop_eq_getElem_cons hi]
    by_cases ht : t.length ≤ i
    · rw [if_pos (by simpa using ht), List.drop_of_length_le (l := t) ht]
      rfl
    · have ht' : i < t.length := by omega
      rw [if_neg (by simpa using ht), idx_nat, List.getElem?_eq_getElem ht', Option.bind_some, List.drop_eq_getElem_cons ht', cmpL, cmpt_val]
      have ih := cmpL_loop s t n (i + 1) (by omega)
      by_cases a : s[i] < t[i]
      · rw [if_pos a, if_pos a, if_pos (by decide)]; rfl
      · rw [if_neg a, if_neg a]
        by_cases b : t[i] < s[i]
        · rw [if_pos b, if_pos b, if_pos (by decide)]; rfl
        · rw [if_neg b, if_neg b, if_neg (by decide)]
          exact ih
theorem cmpL_p (s t : List Int) : slices_Compare_int_p s t = some (cmpL s t) := by
  unfold slices_Compare_int_p
  exact (cmpL_loop s t s.length 0 (by omega)).trans (by rw [List.drop_zero, List.drop_zero])
/-- The sorted list is the one that is ascending and has the same members. -/
theorem sortL_eq {xs ys : List (List Int)} (hp : xs.Perm ys) (hs : ys.Pairwise fun x y => ¬ cmpL y x < 0) : (xs.mergeSort fun x y => !decide (cmpL y x < 0)) = ys := by
  refine List.Perm.eq_of_pairwise (le := fun x y => ¬ cmpL y x < 0) ?_ ?_ hs ((List.mergeSort_perm _ _).trans hp)
  · intro a b _ _ k1 k2
    exact cmpL_anti a b k2 k1
  · have h := List.pairwise_mergeSort (le := fun x y => !decide (cmpL y x < 0)) (fun a b c k1 k2 => ?_) (fun a b => ?_) xs
    · exact h.imp fun k => by simpa using k
    · simp only [Bool.not_eq_true', decide_eq_false_iff_not] at k1 k2 ⊢
      exact cmpL_ntrans _ _ _ k2 k1
    · simp only [Bool.or_eq_true, Bool.not_eq_true', decide_eq_false_iff_not]
      by_cases hab : cmpL b a < 0
      · right
        intro hba
        have := cmpL_trans _ _ _ hab hba
        rw [cmpL_self] at this
        omega
      · exact .inl hab
/-- The sorted list ascends. -/
theorem sortL_asc (xs : List (List Int)) : (xs.mergeSort fun x y => !decide (cmpL y x < 0)).Pairwise fun x y => ¬ cmpL y x < 0 := by
  have h := List.pairwise_mergeSort (le := fun x y => !decide (cmpL y x < 0)) (fun a b c k1 k2 => ?_) (fun a b => ?_) xs
  · exact h.imp fun k => by simpa using k
  · simp only [Bool.not_eq_true', decide_eq_false_iff_not] at k1 k2 ⊢
    exact cmpL_ntrans _ _ _ k2 k1
  · simp only [Bool.or_eq_true, Bool.not_eq_true', decide_eq_false_iff_not]
    by_cases hab : cmpL b a < 0
    · right
      intro hba
      have := cmpL_trans _ _ _ hab hba
      rw [cmpL_self] at this
      omega
    · exact .inl hab
end Go.Pw
