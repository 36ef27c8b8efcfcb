/-
  Plan: the program's answer and the reference's, in plain Lean.
-/
import Derived.Test.YtjmapcjjkaffoaaGreatEqPa
set_option maxHeartbeats 4000000
set_option linter.unusedSimpArgs false
set_option linter.unusedVariables false
namespace Go.Pw
def plF (ops : List Int) : List Int → List Int → Option (List Int)
  | [], out => some out
  | x :: xs, out => if x < 0 ∨ (ops.length : Int) ≤ x then none else if 0 ≤ ops.getD x.toNat 0 then plF ops xs (out ++ [ops.getD x.toNat 0]) else plF ops xs out
theorem idx_mid {α : Type} (pre : List α) (x : α) (xs : List α) : idx (pre ++ x :: xs) (pre.length : Int) = some x := by
  rw [idx_nat, List.getElem?_append_right (Nat.le_refl _)]; simp
theorem idx_getD {ops : List Int} {x : Int} (h0 : 0 ≤ x) (h1 : x < (ops.length : Int)) : idx ops x = some (ops.getD x.toNat 0) := by
  unfold idx
  rw [if_pos h0, List.getD_eq_getElem?_getD, List.getElem?_eq_getElem (by omega)]; rfl
abbrev encO (ops : List Int) : Encoding := ⟨⟨[], [], [], []⟩, [], [], ops⟩
theorem plan_loop (ops : List Int) : ∀ (xs pre out : List Int) (hl : pre.length + xs.length ≤ 500) (ho : out.length ≤ pre.length),
    forC (R := ((List Int) × (Option Int))) (fun i100 => fun (out100 : (List Int)) => (idx (pre ++ xs) (i100 : Int)).bind fun x100 =>
      if ((decide (x100 < 0)) || decide (((encO ops).Ops.length : Int) ≤ x100)) then (some (Ctl.ret ([], some 1)))
      else ((idx (encO ops).Ops x100).bind fun x101 =>
      (if decide (0 ≤ x101) then ((app 8 out100 [x101]).bind fun l100 =>
      some l100)
      else (some out100)).bind (fun (l101 : (List Int)) => some (Ctl.next l101)))) xs.length pre.length out =
    (match plF ops xs out with | none => some (.ret ([], some 1)) | some o => some (.next o))
  | [], pre, out, hl, ho => rfl
  | x :: xs, pre, out, hl, ho => by
    have hl' : pre.length + (xs.length + 1) ≤ 500 := hl
    rw [List.length_cons, forC]
    rw [idx_mid, Option.bind_some]
    unfold plF
    by_cases hb : x < 0 ∨ (ops.length : Int) ≤ x
    · rw [if_pos (by simpa using hb), if_pos hb]
    · rw [if_neg (by simpa using hb), if_neg hb]
      rw [idx_getD (ops := ops) (by omega) (by omega), Option.bind_some]
      have hp : pre ++ x :: xs = (pre ++ [x]) ++ xs := by simp
      have hn : pre.length + 1 = (pre ++ [x]).length := by simp
      by_cases h0 : 0 ≤ ops.getD x.toNat 0
      · rw [if_pos (by simpa using h0), if_pos h0, app_ok (by simp; omega)]
        simp only [Option.bind_some]
        rw [hn]
        simp only [hp]
        exact plan_loop ops xs (pre ++ [x]) _ (by simp; omega) (by simp; omega)
      · rw [if_neg (by simpa using h0), if_neg h0]
        simp only [Option.bind_some]
        rw [hn]
        simp only [hp]
        exact plan_loop ops xs (pre ++ [x]) _ (by simp; omega) (by simp; omega)
theorem ref_loop (ops : List Int) : ∀ (xs pre out : List Int) (hl : pre.length + xs.length ≤ 500) (ho : out.length ≤ pre.length),
    whileC (R := ((List Int) × Bool)) (un2 fun (out100 : (List Int)) (i100 : Int) => if decide (i100 < ((pre ++ xs).length : Int)) then (((idx (pre ++ xs) i100).bind fun x100 =>
      if decide (x100 < 0) then (some true)
      else (some (decide (((encO ops).Ops.length : Int) ≤ x100)))).bind (fun (z100 : Bool) => if z100 then (some (Ctl.ret ([], false)))
      else ((idx (pre ++ xs) i100).bind fun x101 =>
      (idx (encO ops).Ops x101).bind fun x102 =>
      (if decide (0 ≤ x102) then ((app 8 out100 [x102]).bind fun l100 =>
      some l100)
      else (some out100)).bind (fun (l101 : (List Int)) => some (Ctl.next (l101, IntKind.i64.wrap (i100 + 1)))))))
      else (some (Ctl.brk (out100, i100)))) (out, (pre.length : Int)) =
    (match plF ops xs out with | none => some (.ret ([], false)) | some o => some (.brk (o, ((pre ++ xs).length : Int))))
  | [], pre, out, hl, ho => by
    refine whileC_stop ?_ (by intro s' h; cases h)
    simp only [un2, List.append_nil]
    rw [if_neg (by simp)]
  | x :: xs, pre, out, hl, ho => by
    have hl' : pre.length + (xs.length + 1) ≤ 500 := hl
    have hp : pre ++ x :: xs = (pre ++ [x]) ++ xs := by simp
    have hn : IntKind.i64.wrap ((pre.length : Int) + 1) = ((pre ++ [x]).length : Int) := by rw [wrap_id (by omega) (by omega)]; simp
    unfold plF
    by_cases hb : x < 0 ∨ (ops.length : Int) ≤ x
    · rw [if_pos hb]
      refine whileC_stop ?_ (by intro s' h; cases h)
      simp only [un2]
      rw [if_pos (by simp; omega), idx_mid, Option.bind_some]
      by_cases h1 : x < 0
      · rw [if_pos (by simpa using h1), Option.bind_some, if_pos rfl]
      · rw [if_neg (by simpa using h1), Option.bind_some, if_pos (by simp; omega)]
    · rw [if_neg hb]
      by_cases h0 : 0 ≤ ops.getD x.toNat 0
      · rw [if_pos h0]
        rw [whileC_next (s' := (out ++ [ops.getD x.toNat 0], ((pre ++ [x]).length : Int)))]
        · simp only [hp]
          exact ref_loop ops xs (pre ++ [x]) _ (by simp; omega) (by simp; omega)
        simp only [un2]
        rw [if_pos (by simp; omega), idx_mid, Option.bind_some, if_neg (by simp; omega), Option.bind_some, if_neg (by simp; omega), Option.bind_some, idx_getD (by omega) (by omega), Option.bind_some, if_pos (by simpa using h0), app_ok (by simp; omega), hn]
        rfl
      · rw [if_neg h0]
        rw [whileC_next (s' := (out, ((pre ++ [x]).length : Int)))]
        · simp only [hp]
          exact ref_loop ops xs (pre ++ [x]) _ (by simp; omega) (by simp; omega)
        simp only [un2]
        rw [if_pos (by simp; omega), idx_mid, Option.bind_some, if_neg (by simp; omega), Option.bind_some, if_neg (by simp; omega), Option.bind_some, idx_getD (by omega) (by omega), Option.bind_some, if_neg (by simpa using h0), hn]
        rfl
theorem Plan_ok (ops plan : List Int) (h : plan.length ≤ 500) : encode_Plan_p (encO ops) plan = some (match plF ops plan [] with | none => ([], some 1) | some o => (o, none)) := by
  unfold encode_Plan_p
  have := plan_loop ops plan [] [] (by simpa using h) (Nat.le_refl _)
  simp only [List.nil_append, List.length_nil] at this
  rw [this]
  cases plF ops plan [] <;> rfl
theorem rPlan_ok (ops plan : List Int) (h : plan.length ≤ 500) : ref21_Plan_p (encO ops) plan = some (match plF ops plan [] with | none => ([], false) | some o => (o, true)) := by
  unfold ref21_Plan_p
  have := ref_loop ops plan [] [] (by simpa using h) (Nat.le_refl _)
  simp only [List.nil_append, List.length_nil] at this
  rw [show (([] : List Int), (0 : Int)) = ([], ((0 : Nat) : Int)) from rfl, this]
  cases plF ops plan [] <;> rfl
theorem forC_nexts {R : Type} {B : Nat → Unit → Option (Ctl Unit R)} : ∀ (n i : Nat), (∀ j, i ≤ j → j < i + n → B j () = some (.next ())) → forC B n i () = some (.next ())
  | 0, _, _ => rfl
  | n + 1, i, h => by
    rw [forC, h i (Nat.le_refl _) (by omega)]
    exact forC_nexts n (i + 1) (fun j h1 h2 => h j (by omega) (by omega))
theorem Ints_refl (a : List Int) : base_Ints_p a a = some true := by
  unfold base_Ints_p
  rw [if_neg (by simp)]
  refine ctlN () (forC_nexts _ _ ?_) rfl
  intro j _ hj
  rw [idx_nat, List.getElem?_eq_getElem (by omega), Option.bind_some, Option.bind_some, if_neg (by simp)]
theorem encodePlan_ok (fu : Nat) (ops plan : List Int) : law21_EncodePlan_p fu ops plan = some true := by
  unfold law21_EncodePlan_p
  rw [awake_ok]
  by_cases h1 : 500 < (ops.length : Int)
  · rw [if_pos (by simpa using h1)]; rfl
  rw [if_neg (by simpa using h1)]
  by_cases h2 : 500 < (plan.length : Int)
  · rw [if_pos (by simpa using h2)]; rfl
  rw [if_neg (by simpa using h2)]
  simp only [Option.bind_some, Bool.not_true, Bool.false_eq_true, if_false]
  rw [Plan_ok ops plan (by omega), rPlan_ok ops plan (by omega)]
  simp only [Option.bind_some, un2]
  cases plF ops plan [] with
  | none =>
    simp only [Ints_refl, Option.bind_some, if_true]
    with_unfolding_all rfl
  | some o =>
    simp only [Ints_refl, Option.bind_some, if_true]
    rfl
end Go.Pw
