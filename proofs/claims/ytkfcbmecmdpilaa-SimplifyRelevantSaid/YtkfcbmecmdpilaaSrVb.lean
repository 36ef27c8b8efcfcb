/-
  Valid ground tasks, in plain Lean: conditions, operators, tasks.
-/
import Derived.Test.YtkfcbmecmdpilaaSrVa
set_option maxHeartbeats 8000000
set_option linter.unusedSimpArgs false
set_option linter.unusedVariables false
namespace Go.Pw
abbrev sLt1 : ByteArray := ⟨#[60]⟩
abbrev sLe1 : ByteArray := ⟨#[60, 61]⟩
abbrev sEq1 : ByteArray := ⟨#[61]⟩
def TestOK (n : Int) (t : GTest) : Prop := (t.Op = sLt1 ∨ t.Op = sLe1 ∨ t.Op = sEq1) ∧ RE n t.A ∧ RE n t.B
structure CondOK (na nf : Int) (c : Cond) : Prop where
  p : Asc c.Pos na
  n : Asc c.Neg na
  t : ∀ t ∈ c.Tests, TestOK nf t
open Classical in
theorem test_body {R : GExpr → Option Bool} {n : Int} {t : GTest} (hA : R t.A = some (decide (RE n t.A))) (hB : R t.B = some (decide (RE n t.B))) :
    (if (!decide (t.Op = sLt1)) = true then (if (!decide (t.Op = sLe1)) = true then (if (!decide (t.Op = sEq1)) = true then some true
      else ((R t.A).bind fun y => if (!y) = true then some true else ((R t.B).bind fun z => some (!z))))
      else ((R t.A).bind fun y => if (!y) = true then some true else ((R t.B).bind fun z => some (!z))))
      else ((R t.A).bind fun y => if (!y) = true then some true else ((R t.B).bind fun z => some (!z)))) = some (!decide (TestOK n t)) := by
  have hR : ((R t.A).bind fun y => if (!y) = true then some true else ((R t.B).bind fun z => some (!z))) = some (!decide (RE n t.A ∧ RE n t.B)) := by
    rw [hA, hB]
    by_cases a : RE n t.A <;> by_cases b : RE n t.B <;> simp [a, b]
  rw [hR]
  unfold TestOK
  by_cases h1 : t.Op = sLt1
  · simp [h1]
  · by_cases h2 : t.Op = sLe1
    · simp [h2]
    · by_cases h3 : t.Op = sEq1
      · simp [h3]
      · simp [h1, h2, h3]
theorem all_mem {α : Type} {xs : List α} {p : α → Bool} {q : Nat → Bool} (h : ∀ i x, xs[i]? = some x → q i = p x) : (List.range xs.length).all q = xs.all p := by
  rw [Bool.eq_iff_iff, List.all_eq_true, List.all_eq_true]
  constructor
  · intro hq x hx
    obtain ⟨i, hi, rfl⟩ := List.getElem_of_mem hx
    rw [← h i _ (List.getElem?_eq_getElem hi)]
    exact hq i (List.mem_range.2 hi)
  · intro hp i hi
    have hi := List.mem_range.1 hi
    rw [h i _ (List.getElem?_eq_getElem hi)]
    exact hp _ (List.getElem_mem hi)
open Classical in
theorem ctl_forP {α R β : Type} {xs : List α} {B : Nat → Unit → Option (Ctl Unit R)} {r : R} {kr : R → Option β} {k : Unit → Option β} (p : α → Prop) (h : ∀ i x, xs[i]? = some x → B i () = some (if decide (p x) then .next () else .ret r)) :
    ctl (forC B xs.length 0 ()) kr k = if (∀ x ∈ xs, p x) then k () else kr r := by
  rw [ctl_all (r := r) (p := fun i => match xs[i]? with | some x => decide (p x) | none => true)]
  · rw [all_mem (p := fun x => decide (p x)) (fun i x hx => by simp only [hx])]
    by_cases hall : ∀ x ∈ xs, p x
    · rw [if_pos hall, if_pos (by rw [List.all_eq_true]; exact fun x hx => decide_eq_true (hall x hx))]
    · rw [if_neg hall, if_neg (by rw [List.all_eq_true]; exact fun hh => hall fun x hx => of_decide_eq_true (hh x hx))]
  · intro j hj
    obtain ⟨x, hx⟩ := get_len hj
    rw [h j x hx]
    simp only [hx]
open Classical in
theorem ctl_whileP {α R β : Type} {xs : List α} {B : Int → Option (Ctl Int R)} {r : R} {kr : R → Option β} {k : Int → Option β} (p : α → Prop) (h : ∀ (i : Nat) x, xs[i]? = some x → B (i : Int) = some (if decide (p x) then .next ((i + 1 : Nat) : Int) else .ret r))
    (hb : B (xs.length : Int) = some (.brk (xs.length : Int))) : ctl (whileC B 0) kr k = if (∀ x ∈ xs, p x) then k (xs.length : Int) else kr r := by
  rw [while_all (r := r) (n := xs.length) (p := fun i => match xs[i]? with | some x => decide (p x) | none => true)]
  · rw [all_mem (p := fun x => decide (p x)) (fun i x hx => by simp only [hx])]
    by_cases hall : ∀ x ∈ xs, p x
    · rw [if_pos hall, if_pos (by rw [List.all_eq_true]; exact fun x hx => decide_eq_true (hall x hx))]
    · rw [if_neg hall, if_neg (by rw [List.all_eq_true]; exact fun hh => hall fun x hx => of_decide_eq_true (hh x hx))]
  · intro j hj
    obtain ⟨x, hx⟩ := get_len hj
    rw [h j x hx]
    simp only [hx]
  · exact hb
theorem expr_right : ∀ (fu : Nat) (g : Ground) (e : GExpr), SizeOf.sizeOf e < fu → ref18_Expr_p fu g e = ground_right_p fu e (g.Fluents.length : Int)
  | 0, g, e, h => absurd h (Nat.not_lt_zero _)
  | fu + 1, g, ⟨op, N, kids⟩, h => by
    rw [ref18_Expr_p, ground_right_p]
    simp only
    have e1 : ∀ a b c : Bool, (a && (b && c)) = (c && (a && b)) := by decide
    refine ite_congr rfl (fun _ => congrArg some (e1 _ _ _)) fun _ => ite_congr rfl (fun _ => congrArg some (e1 _ _ _)) fun _ => ?_
    congr 1
    funext z
    split
    · congr 1
      split
      · split
        · cases hk : idx kids 0 with
          | none => rfl
          | some x =>
            have hx : x ∈ kids := by
              unfold idx at hk
              simp at hk
              exact List.mem_of_getElem? hk
            have sx : SizeOf.sizeOf x < fu := by
              have := kid_size (e := ⟨op, N, kids⟩) hx
              omega
            simp only [Option.bind_some, expr_right fu g x sx]
            congr 1
            funext y
            split
            · cases hk1 : idx kids 1 with
              | none => rfl
              | some x1 =>
                have hx1 : x1 ∈ kids := by
                  unfold idx at hk1
                  simp at hk1
                  exact List.mem_of_getElem? hk1
                have sx1 : SizeOf.sizeOf x1 < fu := by
                  have := kid_size (e := ⟨op, N, kids⟩) hx1
                  omega
                simp only [Option.bind_some, expr_right fu g x1 sx1]
            · rfl
        · rfl
      · rfl
    · rfl
open Classical in
theorem expr_ok (fu : Nat) (g : Ground) (e : GExpr) (h : SizeOf.sizeOf e < fu) : ref18_Expr_p fu g e = some (decide (RE (g.Fluents.length : Int) e)) := by
  rw [expr_right fu g e h, right_ok fu e _ h]
section
variable {fu : Nat} {g : Ground} {c : Cond}
open Classical in
theorem cond_ok (hl : LenC c) (hs : SizeOf.sizeOf c ≤ fu) : ground_condition_p fu g c = some (decide (CondOK (g.Atoms.length : Int) (g.Fluents.length : Int) c)) := by
  unfold ground_condition_p
  rw [ctl_forP (r := false) (fun t => TestOK (g.Fluents.length : Int) t)]
  · rw [indices_ok _ _ hl.p, indices_ok _ _ hl.n]
    by_cases h : ∀ t ∈ c.Tests, TestOK (g.Fluents.length : Int) t
    · rw [if_pos h]
      by_cases hp : Asc c.Pos (g.Atoms.length : Int)
      · by_cases hn : Asc c.Neg (g.Atoms.length : Int)
        · rw [decide_eq_true (CondOK.mk hp hn h)]; simp [hp, hn]
        · rw [decide_eq_false (fun q : CondOK _ _ c => hn q.n)]; simp [hp, hn]
      · rw [decide_eq_false (fun q : CondOK _ _ c => hp q.p)]; simp [hp]
    · rw [if_neg h, decide_eq_false (fun q : CondOK _ _ c => h q.t)]
  · intro i t ht
    have hm := List.mem_of_getElem? ht
    have hz := test_size hm
    simp only [idx_nat, ht, Option.bind_some]
    rw [test_body (R := fun e => ground_right_p fu e (g.Fluents.length : Int)) (right_ok fu _ _ (by omega)) (right_ok fu _ _ (by omega))]
    by_cases q : TestOK (g.Fluents.length : Int) t <;> simp [q]
open Classical in
theorem refCond_ok (hl : LenC c) (hs : SizeOf.sizeOf c ≤ fu) : ref18_Cond_p fu g c = some (decide (CondOK (g.Atoms.length : Int) (g.Fluents.length : Int) c)) := by
  unfold ref18_Cond_p
  rw [ascending_ok _ _ hl.p, ascending_ok _ _ hl.n]
  by_cases hp : Asc c.Pos (g.Atoms.length : Int)
  rotate_left
  · rw [decide_eq_false (fun q : CondOK _ _ c => hp q.p)]; simp [hp]
  by_cases hn : Asc c.Neg (g.Atoms.length : Int)
  rotate_left
  · rw [decide_eq_false (fun q : CondOK _ _ c => hn q.n)]; simp [hp, hn]
  simp only [hp, hn, decide_true, Option.bind_some, Bool.not_true, Bool.false_eq_true, if_false]
  rw [ctl_whileP (xs := c.Tests) (r := false) (fun t => TestOK (g.Fluents.length : Int) t)]
  · by_cases h : ∀ t ∈ c.Tests, TestOK (g.Fluents.length : Int) t
    · rw [if_pos h, decide_eq_true (CondOK.mk hp hn h)]
    · rw [if_neg h, decide_eq_false (fun q : CondOK _ _ c => h q.t)]
  · intro i t ht
    have hm := List.mem_of_getElem? ht
    have hi := (List.getElem?_eq_some_iff.1 ht).1
    have hz := test_size hm
    rw [if_pos (decide_eq_true (by omega))]
    simp only [idx_nat, ht, Option.bind_some]
    rw [test_body (R := fun e => ref18_Expr_p fu g e) (expr_ok fu g _ (by omega)) (expr_ok fu g _ (by omega)), wrap_succ hi hl.t]
    by_cases q : TestOK (g.Fluents.length : Int) t <;> simp [q]
  · rw [if_neg (by simp)]
end
end Go.Pw
