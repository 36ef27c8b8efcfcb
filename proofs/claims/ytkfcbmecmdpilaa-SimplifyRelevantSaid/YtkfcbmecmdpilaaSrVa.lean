/-
  Valid ground tasks, in plain Lean: the program and the reference accept the same.
-/
import Derived.Test.YtkfcbmecmdpilaaSrP
import Derived.Test.YtkfcbmecmdpilaaB1
import Derived.Test.YtkfcbmecmdpilaaB5
set_option maxHeartbeats 4000000
set_option linter.unusedSimpArgs false
set_option linter.unusedVariables false
namespace Go.Pw
abbrev sNum : ByteArray := ⟨#[110, 117, 109, 98, 101, 114]⟩
abbrev sFlu : ByteArray := ⟨#[102, 108, 117, 101, 110, 116]⟩
abbrev sAdd : ByteArray := ⟨#[43]⟩
abbrev sSub : ByteArray := ⟨#[45]⟩
abbrev sMul : ByteArray := ⟨#[42]⟩
theorem get_len {α : Type} {xs : List α} {i : Nat} (h : i < xs.length) : ∃ x, xs[i]? = some x := ⟨xs[i], by simp [h]⟩
/-- Right expressions. -/
inductive RE (n : Int) : GExpr → Prop
  | num {N : Int} : -1099511627776 ≤ N → N ≤ 1099511627776 → RE n ⟨sNum, N, []⟩
  | flu {N : Int} : 0 ≤ N → N < n → RE n ⟨sFlu, N, []⟩
  | bin {op : ByteArray} {a b : GExpr} : (op = sAdd ∨ op = sSub ∨ op = sMul) → RE n a → RE n b → RE n ⟨op, 0, [a, b]⟩
theorem kid_size {e : GExpr} {k : GExpr} (h : k ∈ e.Kids) : SizeOf.sizeOf k < SizeOf.sizeOf e := by
  have := List.sizeOf_lt_of_mem h
  cases e
  simp only [GExpr.mk.sizeOf_spec] at *
  omega
open Classical in
theorem right_ok : ∀ (fu : Nat) (e : GExpr) (n : Int), SizeOf.sizeOf e < fu → ground_right_p fu e n = some (decide (RE n e))
  | 0, e, n, h => absurd h (Nat.not_lt_zero _)
  | fu + 1, ⟨op, N, kids⟩, n, h => by
    rw [ground_right_p]
    simp only
    have hkl : (kids.length : Int) = 0 ↔ kids = [] := by
      constructor
      · intro h; exact List.eq_nil_of_length_eq_zero (by omega)
      · rintro rfl; rfl
    by_cases h1 : op = sNum
    · subst h1
      have hR : RE n ⟨sNum, N, kids⟩ ↔ kids = [] ∧ -1099511627776 ≤ N ∧ N ≤ 1099511627776 := by
        constructor
        · intro hr
          cases hr with
          | num a b => exact ⟨rfl, a, b⟩
          | bin ho => rcases ho with h | h | h <;> cases h
        · rintro ⟨rfl, a, b⟩; exact .num a b
      rw [if_pos (decide_eq_true rfl), ← Bool.decide_and, ← Bool.decide_and]
      congr 1
      exact decide_eq_decide.2 (by rw [hR, hkl])
    · have h1' : ¬ (decide (op = (⟨#[110, 117, 109, 98, 101, 114]⟩ : ByteArray)) = true) := by simpa using h1
      rw [if_neg h1']
      by_cases h2 : op = sFlu
      · subst h2
        have hR : RE n ⟨sFlu, N, kids⟩ ↔ kids = [] ∧ 0 ≤ N ∧ N < n := by
          constructor
          · intro hr
            cases hr with
            | flu a b => exact ⟨rfl, a, b⟩
            | bin ho => rcases ho with h | h | h <;> cases h
          · rintro ⟨rfl, a, b⟩; exact .flu a b
        rw [if_pos (decide_eq_true rfl), ← Bool.decide_and, ← Bool.decide_and]
        congr 1
        exact decide_eq_decide.2 (by rw [hR, hkl])
      · have h2' : ¬ (decide (op = (⟨#[102, 108, 117, 101, 110, 116]⟩ : ByteArray)) = true) := by simpa using h2
        rw [if_neg h2']
        have hz : (if decide (op = (⟨#[43]⟩ : ByteArray)) = true then some (decide (op = (⟨#[43]⟩ : ByteArray))) else
            ((if decide (op = (⟨#[45]⟩ : ByteArray)) = true then some (decide (op = (⟨#[45]⟩ : ByteArray))) else some (decide (op = (⟨#[42]⟩ : ByteArray)))).bind fun (z100 : Bool) => some z100)) = some (decide (op = sAdd ∨ op = sSub ∨ op = sMul)) := by
          by_cases a : op = sAdd
          · simp [a]
          · by_cases b : op = sSub
            · simp [b]
            · simp [a, b]
        rw [hz]
        simp only [Option.bind_some]
        by_cases ho : op = sAdd ∨ op = sSub ∨ op = sMul
        · rw [if_pos (decide_eq_true ho)]
          by_cases hN : N = 0
          · subst hN
            rw [if_pos (decide_eq_true rfl)]
            by_cases hk : (kids.length : Int) = 2
            · obtain ⟨a, b, rfl⟩ : ∃ a b, kids = [a, b] := by
                match kids, hk with
                | [a, b], _ => exact ⟨a, b, rfl⟩
                | [], h => simp at h
                | [_], h => simp at h
                | _ :: _ :: _ :: _, h => simp at h; omega
              have sa : SizeOf.sizeOf a < fu := by
                have := kid_size (e := ⟨op, 0, [a, b]⟩) (k := a) (by simp)
                omega
              have sb : SizeOf.sizeOf b < fu := by
                have := kid_size (e := ⟨op, 0, [a, b]⟩) (k := b) (by simp)
                omega
              have i0 : idx [a, b] 0 = some a := rfl
              have i1 : idx [a, b] 1 = some b := rfl
              rw [if_pos (decide_eq_true hk), i0]
              simp only [Option.bind_some, right_ok fu a n sa]
              have hR : RE n ⟨op, 0, [a, b]⟩ ↔ RE n a ∧ RE n b := by
                constructor
                · intro hr
                  cases hr with
                  | bin _ p q => exact ⟨p, q⟩
                · rintro ⟨p, q⟩; exact .bin ho p q
              by_cases ra : RE n a
              · simp only [ra, decide_true, if_true, i1, Option.bind_some, right_ok fu b n sb]
                congr 1
                exact decide_eq_decide.2 (by rw [hR]; simp [ra])
              · simp only [ra, decide_false, Bool.false_eq_true, if_false, Option.bind_some]
                congr 1
                exact (decide_eq_false fun hr => ra (hR.1 hr).1).symm
            · have hk' : ¬ (decide ((kids.length : Int) = 2) = true) := by simpa using hk
              rw [if_neg hk']
              simp only [Option.bind_some]
              congr 1
              refine (decide_eq_false fun hr => ?_).symm
              cases hr with
              | bin _ _ _ => exact hk rfl
              | num => exact h1 rfl
              | flu => exact h2 rfl
          · have hN' : ¬ (decide (N = 0) = true) := by simpa using hN
            rw [if_neg hN']
            simp only [Option.bind_some]
            congr 1
            refine (decide_eq_false fun hr => ?_).symm
            cases hr with
            | bin _ _ _ => exact hN rfl
            | num => exact h1 rfl
            | flu => exact h2 rfl
        · rw [if_neg (by simpa using ho)]
          congr 1
          refine (decide_eq_false fun hr => ?_).symm
          cases hr with
          | bin q _ _ => exact ho q
          | num => exact h1 rfl
          | flu => exact h2 rfl
/-- Ascending lists of numbers below n. -/
def AscAt (l : List Int) (n : Int) (i : Nat) : Prop := ∀ x, l[i]? = some x → 0 ≤ x ∧ x < n ∧ ∀ y, 0 < i → l[i - 1]? = some y → y < x
def Asc (l : List Int) (n : Int) : Prop := ∀ i, AscAt l n i
open Classical in
theorem asc_all (l : List Int) (n : Int) : (List.range l.length).all (fun i => decide (AscAt l n i)) = decide (Asc l n) := by
  by_cases h : Asc l n
  · rw [decide_eq_true h, List.all_eq_true]
    intro i _
    exact decide_eq_true (h i)
  · rw [decide_eq_false h, Bool.eq_false_iff]
    intro hall
    apply h
    intro i x hx
    have hi := (List.getElem?_eq_some_iff.1 hx).1
    have := List.all_eq_true.1 hall i (List.mem_range.2 hi)
    exact (of_decide_eq_true this) x hx
open Classical in
theorem asc_body {l : List Int} {n : Int} {i : Nat} {x : Int} (hl : l.length ≤ 9223372036854775807) (hx : l[i]? = some x) :
    (if decide (x < 0) = true then some true else if decide (n ≤ x) = true then some true else if decide (0 < (i : Int)) = true then (idx l (IntKind.i64.wrap ((i : Int) - 1))).bind fun y => some (decide (x ≤ y)) else some false) = some (!decide (AscAt l n i)) := by
  have hi := (List.getElem?_eq_some_iff.1 hx).1
  by_cases h1 : x < 0
  · rw [if_pos (decide_eq_true h1), decide_eq_false (fun h : AscAt l n i => by have := (h x hx).1; omega)]; rfl
  · rw [if_neg (by simpa using h1)]
    by_cases h2 : n ≤ x
    · rw [if_pos (decide_eq_true h2), decide_eq_false (fun h : AscAt l n i => by have := (h x hx).2.1; omega)]; rfl
    · rw [if_neg (by simpa using h2)]
      by_cases h3 : 0 < i
      · rw [if_pos (by simpa using h3), wrap_id (by omega) (by omega)]
        obtain ⟨y, hy⟩ := get_len (xs := l) (i := i - 1) (by omega)
        have e : (i : Int) - 1 = ((i - 1 : Nat) : Int) := by omega
        rw [e, idx_nat, hy]
        simp only [Option.bind_some]
        congr 1
        by_cases h4 : x ≤ y
        · rw [decide_eq_true h4, decide_eq_false (fun h : AscAt l n i => by have := (h x hx).2.2 y h3 hy; omega)]; rfl
        · rw [decide_eq_false h4, decide_eq_true (show AscAt l n i from fun x' hx' => by
            rw [hx] at hx'; cases hx'
            exact ⟨by omega, by omega, fun y' _ hy' => by rw [hy] at hy'; cases hy'; omega⟩)]
          rfl
      · rw [if_neg (by simpa using h3), decide_eq_true (show AscAt l n i from fun x' hx' => by
            rw [hx] at hx'; cases hx'
            exact ⟨by omega, by omega, fun y' h _ => absurd h h3⟩)]
        rfl
open Classical in
theorem indices_ok (l : List Int) (n : Int) (hl : l.length ≤ 9223372036854775807) : ground_indices_p l n = some (decide (Asc l n)) := by
  unfold ground_indices_p
  rw [ctl_all (r := false) (p := fun i => decide (AscAt l n i))]
  · rw [asc_all]
    by_cases h : Asc l n <;> simp [h]
  · intro j hj
    obtain ⟨x, hx⟩ := get_len hj
    simp only [idx_nat, hx, Option.bind_some]
    rw [asc_body hl hx]
    by_cases h : AscAt l n j <;> simp [h]
theorem wrap_succ {j n : Nat} (hj : j < n) (hn : n ≤ 9223372036854775807) : IntKind.i64.wrap ((j : Int) + 1) = ((j + 1 : Nat) : Int) := by
  rw [wrap_id (by omega) (by omega)]; omega
open Classical in
theorem ascending_ok (l : List Int) (n : Int) (hl : l.length ≤ 9223372036854775807) : ref18_ascending_p l n = some (decide (Asc l n)) := by
  unfold ref18_ascending_p
  rw [while_all (r := false) (n := l.length) (p := fun i => decide (AscAt l n i))]
  · rw [asc_all]
    by_cases h : Asc l n <;> simp [h]
  · intro j hj
    obtain ⟨x, hx⟩ := get_len hj
    have hlt : decide ((j : Int) < (l.length : Int)) = true := decide_eq_true (by omega)
    rw [if_pos hlt]
    simp only [idx_nat, hx, Option.bind_some]
    rw [asc_body hl hx, wrap_succ hj hl]
    by_cases h : AscAt l n j <;> simp [h]
  · rw [if_neg (by simp)]
/-! ### sizes -/
inductive WFE : GExpr → Prop
  | mk {op : ByteArray} {N : Int} {kids : List GExpr} : kids.length ≤ 9223372036854775807 → (∀ k ∈ kids, WFE k) → WFE ⟨op, N, kids⟩
structure LenC (c : Cond) : Prop where
  p : c.Pos.length ≤ 9223372036854775807
  n : c.Neg.length ≤ 9223372036854775807
  t : c.Tests.length ≤ 9223372036854775807
  e : ∀ t ∈ c.Tests, WFE t.A ∧ WFE t.B
structure LenO (o : GOp) : Prop where
  nm : o.Name.size ≤ 9223372036854775807
  pre : LenC o.Pre
  ch : o.Changes.length ≤ 9223372036854775807
  whn : ∀ c ∈ o.Changes, LenC c.When
  as : o.Assigns.length ≤ 9223372036854775807
  val : ∀ a ∈ o.Assigns, WFE a.Value
structure LenG (g : Ground) : Prop where
  a : g.Atoms.length ≤ 9223372036854775807
  f : g.Fluents.length ≤ 9223372036854775807
  i : g.Init.length ≤ 9223372036854775807
  gl : g.Goal.length ≤ 9223372036854775807
  o : g.Ops.length ≤ 9223372036854775807
  goal : ∀ c ∈ g.Goal, LenC c
  op : ∀ o ∈ g.Ops, LenO o
theorem test_size {c : Cond} {t : GTest} (h : t ∈ c.Tests) : SizeOf.sizeOf t.A < SizeOf.sizeOf c ∧ SizeOf.sizeOf t.B < SizeOf.sizeOf c := by
  have h1 := List.sizeOf_lt_of_mem h
  obtain ⟨p, n, ts⟩ := c
  obtain ⟨o, a, b⟩ := t
  simp only [Cond.mk.sizeOf_spec, GTest.mk.sizeOf_spec] at *
  omega
theorem pre_size (o : GOp) : SizeOf.sizeOf o.Pre < SizeOf.sizeOf o := by
  cases o
  simp only [GOp.mk.sizeOf_spec]
  omega
theorem when_size {o : GOp} {c : GChange} (h : c ∈ o.Changes) : SizeOf.sizeOf c.When < SizeOf.sizeOf o := by
  have h1 := List.sizeOf_lt_of_mem h
  obtain ⟨nm, k, p, cs, as⟩ := o
  obtain ⟨w, a, b⟩ := c
  simp only [GOp.mk.sizeOf_spec, GChange.mk.sizeOf_spec] at *
  omega
theorem value_size {o : GOp} {a : GAssign} (h : a ∈ o.Assigns) : SizeOf.sizeOf a.Value < SizeOf.sizeOf o := by
  have h1 := List.sizeOf_lt_of_mem h
  obtain ⟨nm, k, p, cs, as⟩ := o
  obtain ⟨f, v⟩ := a
  simp only [GOp.mk.sizeOf_spec, GAssign.mk.sizeOf_spec] at *
  omega
theorem goal_size {g : Ground} {c : Cond} (h : c ∈ g.Goal) : SizeOf.sizeOf c < SizeOf.sizeOf g := by
  have h1 := List.sizeOf_lt_of_mem h
  obtain ⟨a, f, i, gl, o⟩ := g
  simp only [Ground.mk.sizeOf_spec] at *
  omega
theorem op_size {g : Ground} {o : GOp} (h : o ∈ g.Ops) : SizeOf.sizeOf o < SizeOf.sizeOf g := by
  have h1 := List.sizeOf_lt_of_mem h
  obtain ⟨a, f, i, gl, os⟩ := g
  simp only [Ground.mk.sizeOf_spec] at *
  omega
end Go.Pw
