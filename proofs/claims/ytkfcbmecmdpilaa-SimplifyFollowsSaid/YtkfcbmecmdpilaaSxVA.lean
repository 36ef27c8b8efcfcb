/-
  Valid ground tasks, in plain Lean: the program and the reference accept the same.
-/
import Derived.Test.YtkfcbmecmdpilaaSxP
import Derived.Test.YtkfcbmecmdpilaaB1
import Derived.Test.YtkfcbmecmdpilaaB5
set_option maxHeartbeats 4000000
set_option linter.unusedSimpArgs false
set_option linter.unusedVariables false
namespace Go.Pw
abbrev sNum : ByteArray := ⟨#[110, 117, 109, 98, 101, 114]⟩
abbrev sFlu : ByteArray := ⟨#[102, 108, 117, 101, 110, 116]⟩
abbrev sAdd : ByteArray := ⟨#[43]⟩
abbrev sSub : ByteArray := ⟨#[45]⟩
abbrev sMul : ByteArray := ⟨#[42]⟩
theorem get_len {α : Type} {xs : List α} {i : Nat} (h : i < xs.length) : ∃ x, xs[i]? = some x := ⟨xs[i], by simp [h]⟩
/-- Right expressions. -/
inductive RE (n : Int) : GExpr → Prop
  | num {N : Int} : -1099511627776 ≤ N → N ≤ 1099511627776 → RE n ⟨sNum, N, []⟩
  | flu {N : Int} : 0 ≤ N → N < n → RE n ⟨sFlu, N, []⟩
  | bin {op : ByteArray} {a b : GExpr} : (op = sAdd ∨ op = sSub ∨ op = sMul) → RE n a → RE n b → RE n ⟨op, 0, [a, b]⟩
theorem kid_size {e : GExpr} {k : GExpr} (h : k ∈ e.Kids) : SizeOf.sizeOf k < SizeOf.sizeOf e := by
  have := List.sizeOf_lt_of_mem h
  cases e
  simp only [GExpr.mk.sizeOf_spec] at *
  omega
open Classical in
theorem right_ok : ∀ (fu : Nat) (e : GExpr) (n : Int), SizeOf.sizeOf e < fu → ground_right_p fu e n = some (decide (RE n e))
  | 0, e, n, h => absurd h (Nat.not_lt_zero _)
  | fu + 1, ⟨op, N, kids⟩, n, h => by
    rw [ground_right_p]
    simp only
    have hkl : (kids.length : Int) = 0 ↔ kids = [] := by
      constructor
      · intro h; exact List.eq_nil_of_length_eq_zero (by omega)
      · rintro rfl; rfl
    by_cases h1 : op = sNum
    · subst h1
      have hR : RE n ⟨sNum, N, kids⟩ ↔ kids = [] ∧ -1099511627776 ≤ N ∧ N ≤ 1099511627776 := by
        constructor
        · intro hr
          cases hr with
          | num a b => exact ⟨rfl, a, b⟩
          | bin ho => rcases ho with h | h | h <;> cases h
        · rintro ⟨rfl, a, b⟩; exact .num a b
      rw [if_pos (decide_eq_true rfl), ← Bool.decide_and, ← Bool.decide_and]
      congr 1
      exact decide_eq_decide.2 (by rw [hR, hkl])
    · have h1' : ¬ (decide (op = (⟨#[110, 117, 109, 98, 101, 114]⟩ : ByteArray)) = true) := by simpa using h1
      rw [if_neg h1']
      by_cases h2 : op = sFlu
      · subst h2
        have hR : RE n ⟨sFlu, N, kids⟩ ↔ kids = [] ∧ 0 ≤ N ∧ N < n := by
          constructor
          · intro hr
            cases hr with
            | flu a b => exact ⟨rfl, a, b⟩
            | bin ho => rcases ho with h | h | h <;> cases h
          · rintro ⟨rfl, a, b⟩; exact .flu a b
        rw [if_pos (decide_eq_true rfl), ← Bool.decide_and, ← Bool.decide_and]
        congr 1
        exact decide_eq_decide.2 (by rw [hR, hkl])
      · have h2' : ¬ (decide (op = (⟨#[102, 108, 117, 101, 110, 116]⟩ : ByteArray)) = true) := by simpa using h2
        rw [if_neg h2']
        have hz : (if decide (op = (⟨#[43]⟩ : ByteArray)) = true then some (decide (op = (⟨#[43]⟩ : ByteArray))) else
            ((if decide (op = (⟨#[45]⟩ : ByteArray)) = true then some (decide (op = (⟨#[45]⟩ : ByteArray))) else some (decide (op = (⟨#[42]⟩ : ByteArray)))).bind fun (z100 : Bool) => some z100)) = some (decide (op = sAdd ∨ op = sSub ∨ op = sMul)) := by
          by_cases a : op = sAdd
          · simp [a]
          · by_cases b : op = sSub
            · simp [b]
            · simp [a, b]
        rw [hz]
        simp only [Option.bind_some]
        by_cases ho : op = sAdd ∨ op = sSub ∨ op = sMul
        · rw [if_pos (decide_eq_true ho)]
          by_cases hN : N = 0
          · subst hN
            rw [if_pos (decide_eq_true rfl)]
            by_cases hk : (kids.length : Int) = 2
            · obtain ⟨a, b, rfl⟩ : ∃ a b, kids = [a, b] := by
                match kids, hk with
                | [a, b], _ => exact ⟨a, b, rfl⟩
                | [], h => simp at h
                | [_], h => simp at h
                | _ :: _ :: _ :: _, h => simp at h; omega
              have sa : SizeOf.sizeOf a < fu := by
                have := kid_size (e := ⟨op, 0, [a, b]⟩) (k := a) (by simp)
                omega
              have sb : SizeOf.sizeOf b < fu := by
                have := kid_size (e := ⟨op, 0, [a, b]⟩) (k := b) (by simp)
                omega
              have i0 : idx [a, b] 0 = some a := rfl
              have i1 : idx [a, b] 1 = some b := rfl
              rw [if_pos (decide_eq_true hk), i0]
              simp only [Option.bind_some, right_ok fu a n sa]
              have hR : RE n ⟨op, 0, [a, b]⟩ ↔ RE n a ∧ RE n b := by
                constructor
                · intro hr
                  cases hr with
                  | bin _ p q => exact ⟨p, q⟩
                · rintro ⟨p, q⟩; exact .bin ho p q
              by_cases ra : RE n a
              · simp only [ra, decide_true, if_true, i1, Option.bind_some, right_ok fu b n sb]
                congr 1
                exact decide_eq_decide.2 (by rw [hR]; simp [ra])
              · simp only [ra, decide_false, Bool.false_eq_true, if_false, Option.bind_some]
                congr 1
                exact (decide_eq_false fun hr => ra (hR.1 hr).1).symm
            · have hk' : ¬ (decide ((kids.length : Int) = 2) = true) := by simpa using hk
              rw [if_neg hk']
              simp only [Option.bind_some]
              congr 1
              refine (decide_eq_false fun hr => ?_).symm
              cases hr with
              | bin _ _ _ => exact hk rfl
              | num => exact h1 rfl
              | flu => exact h2 rfl
          · have hN' : ¬ (decide (N = 0) = true) := by simpa using hN
            rw [if_neg hN']
            simp only [Option.bind_some]
            congr 1
            refine (decide_eq_false fun hr => ?_).symm
            cases hr with
            | bin _ _ _ => exact hN rfl
            | num => exact h1 rfl
            | flu => exact h2 rfl
        · rw [if_neg (by simpa using ho)]
          congr 1
          refine (decide_eq_false fun hr => ?_).symm
          cases hr with
          | bin q _ _ => exact ho q
          | num => exact h1 rfl
          | flu => exact h2 rfl
/-- Ascending lists of numbers below n. -/
def AscAt (l : List Int) (n : Int) (i : Nat) : Prop := ∀ x, l[i]? = some x → 0 ≤ x ∧ x < n ∧ ∀ y, 0 < i → l[i - 1]? = some y → y < x
def Asc (l : List Int) (n : Int) : Prop := ∀ i, AscAt l n i
open Classical in
theorem asc_all (l : List Int) (n : Int) : (List.range l.length).all (fun i => decide (AscAt l n i)) = decide (Asc l n) := by
  by_cases h : Asc l n
  · rw [decide_eq_true h, List.all_eq_true]
    intro i _
    exact decide_eq_true (h i)
  · rw [decide_eq_false h, Bool.eq_false_iff]
    intro hall
    apply h
    intro i x hx
    have hi := (List.getElem?_eq_some_iff.1 hx).1
    have := List.all_eq_true.1 hall i (List.mem_range.2 hi)
    exact (of_decide_eq_true this) x hx
open Classical in
theorem asc_body {l : List Int} {n : Int} {i : Nat} {x : Int} (hl : l.length ≤ 9223372036854775807) (hx : l[i]? = some x) :
    (if decide (x < 0) = true then some true else if decide (n ≤ x) = true then some true else if decide (0 < (i : Int)) = true then (idx l (IntKind.i64.wrap ((i : Int) - 1))).bind fun y => some (decide (x ≤ y)) else some false) = some (!decide (AscAt l n i)) := by
  have hi := (List.getElem?_eq_some_iff.1 hx).1
  by_cases h1 : x < 0
  · rw [if_pos (decide_eq_true h1), decide_eq_false (fun h : AscAt l n i => by have := (h x hx).1; omega)]; rfl
  · rw [if_neg (by simpa using h1)]
    by_cases h2 : n ≤ x
    · rw [if_pos (decide_eq_true h2), decide_eq_false (fun h : AscAt l n i => by have := (h x hx).2.1; omega)]; rfl
    · rw [if_neg (by simpa using h2)]
      by_cases h3 : 0 < i
      · rw [if_pos (by simpa using h3), wrap_id (by omega) (by omega)]
        obtain ⟨y, hy⟩ := get_len (xs := l) (i := i - 1) (by omega)
        have e : (i : Int) - 1 = ((i - 1 : Nat) : Int) := by omega
        rw [e, idx_nat, hy]
        simp only [Option.bind_some]
        congr 1
        by_cases h4 : x ≤ y
        · rw [decide_eq_true h4, decide_eq_false (fun h : AscAt l n i => by have := (h x hx).2.2 y h3 hy; omega)]; rfl
        · rw [decide_eq_false h4, decide_eq_true (show AscAt l n i from fun x' hx' => by
            rw [hx] at hx'; cases hx'
            exact ⟨by omega, by omega, fun y' _ hy' => by rw [hy] at hy'; cases hy'; omega⟩)]
          rfl
      · rw [if_neg (by simpa using h3), decide_eq_true (show AscAt l n i from fun x' hx' => by
            rw [hx] at hx'; cases hx'
            exact ⟨by omega, by omega, fun y' h _ => absurd h h3⟩)]
        rfl
open Classical in
theorem indices_ok (l : List Int) (n : Int) (hl : l.length ≤ 9223372036854775807) : ground_indices_p l n = some (decide (Asc l n)) := by
  unfold ground_indices_p
  rw [ctl_all (r := false) (p := fun i => decide (AscAt l n i))]
  · rw [asc_all]
    by_cases h : Asc l n <;> simp [h]
  · intro j hj
    obtain ⟨x, hx⟩ := get_len hj
    simp only [idx_nat, hx, Option.bind_some]
    rw [asc_body hl hx]
    by_cases h : AscAt l n j <;> simp [h]
theorem wrap_succ {j n : Nat} (hj : j < n) (hn : n ≤ 9223372036854775807) : IntKind.i64.wrap ((j : Int) + 1) = ((j + 1 : Nat) : Int) := by
  rw [wrap_id (by omega) (by omega)]; omega
/-! ### sizes -/
inductive WFE : GExpr → Prop
  | mk {op : ByteArray} {N : Int} {kids : List GExpr} : kids.length ≤ 9223372036854775807 → (∀ k ∈ kids, WFE k) → WFE ⟨op, N, kids⟩
structure LenC (c : Cond) : Prop where
  p : c.Pos.length ≤ 9223372036854775807
  n : c.Neg.length ≤ 9223372036854775807
  t : c.Tests.length ≤ 9223372036854775807
  e : ∀ t ∈ c.Tests, WFE t.A ∧ WFE t.B
structure LenO (o : GOp) : Prop where
  nm : o.Name.size ≤ 9223372036854775807
  pre : LenC o.Pre
  ch : o.Changes.length ≤ 9223372036854775807
  whn : ∀ c ∈ o.Changes, LenC c.When
  as : o.Assigns.length ≤ 9223372036854775807
  val : ∀ a ∈ o.Assigns, WFE a.Value
structure LenG (g : Ground) : Prop where
  a : g.Atoms.length ≤ 9223372036854775807
  f : g.Fluents.length ≤ 9223372036854775807
  i : g.Init.length ≤ 9223372036854775807
  gl : g.Goal.length ≤ 9223372036854775807
  o : g.Ops.length ≤ 9223372036854775807
  goal : ∀ c ∈ g.Goal, LenC c
  op : ∀ o ∈ g.Ops, LenO o
theorem test_size {c : Cond} {t : GTest} (h : t ∈ c.Tests) : SizeOf.sizeOf t.A < SizeOf.sizeOf c ∧ SizeOf.sizeOf t.B < SizeOf.sizeOf c := by
  have h1 := List.sizeOf_lt_of_mem h
  obtain ⟨p, n, ts⟩ := c
  obtain ⟨o, a, b⟩ := t
  simp only [Cond.mk.sizeOf_spec, GTest.mk.sizeOf_spec] at *
  omega
theorem pre_size (o : GOp) : SizeOf.sizeOf o.Pre < SizeOf.sizeOf o := by
  cases o
  simp only [GOp.mk.sizeOf_spec]
  omega
theorem when_size {o : GOp} {c : GChange} (h : c ∈ o.Changes) : SizeOf.sizeOf c.When < SizeOf.sizeOf o := by
  have h1 := List.sizeOf_lt_of_mem h
  obtain ⟨nm, k, p, cs, as⟩ := o
  obtain ⟨w, a, b⟩ := c
  simp only [GOp.mk.sizeOf_spec, GChange.mk.sizeOf_spec] at *
  omega
theorem value_size {o : GOp} {a : GAssign} (h : a ∈ o.Assigns) : SizeOf.sizeOf a.Value < SizeOf.sizeOf o := by
  have h1 := List.sizeOf_lt_of_mem h
  obtain ⟨nm, k, p, cs, as⟩ := o
  obtain ⟨f, v⟩ := a
  simp only [GOp.mk.sizeOf_spec, GAssign.mk.sizeOf_spec] at *
  omega
theorem goal_size {g : Ground} {c : Cond} (h : c ∈ g.Goal) : SizeOf.sizeOf c < SizeOf.sizeOf g := by
  have h1 := List.sizeOf_lt_of_mem h
  obtain ⟨a, f, i, gl, o⟩ := g
  simp only [Ground.mk.sizeOf_spec] at *
  omega
theorem op_size {g : Ground} {o : GOp} (h : o ∈ g.Ops) : SizeOf.sizeOf o < SizeOf.sizeOf g := by
  have h1 := List.sizeOf_lt_of_mem h
  obtain ⟨a, f, i, gl, os⟩ := g
  simp only [Ground.mk.sizeOf_spec] at *
  omega
end Go.Pw
/-
  Valid ground tasks, in plain Lean: conditions, operators, tasks.
-/
set_option maxHeartbeats 8000000
namespace Go.Pw
abbrev sLt1 : ByteArray := ⟨#[60]⟩
abbrev sLe1 : ByteArray := ⟨#[60, 61]⟩
abbrev sEq1 : ByteArray := ⟨#[61]⟩
def TestOK (n : Int) (t : GTest) : Prop := (t.Op = sLt1 ∨ t.Op = sLe1 ∨ t.Op = sEq1) ∧ RE n t.A ∧ RE n t.B
structure CondOK (na nf : Int) (c : Cond) : Prop where
  p : Asc c.Pos na
  n : Asc c.Neg na
  t : ∀ t ∈ c.Tests, TestOK nf t
open Classical in
theorem test_body {R : GExpr → Option Bool} {n : Int} {t : GTest} (hA : R t.A = some (decide (RE n t.A))) (hB : R t.B = some (decide (RE n t.B))) :
    (if (!decide (t.Op = sLt1)) = true then (if (!decide (t.Op = sLe1)) = true then (if (!decide (t.Op = sEq1)) = true then some true
      else ((R t.A).bind fun y => if (!y) = true then some true else ((R t.B).bind fun z => some (!z))))
      else ((R t.A).bind fun y => if (!y) = true then some true else ((R t.B).bind fun z => some (!z))))
      else ((R t.A).bind fun y => if (!y) = true then some true else ((R t.B).bind fun z => some (!z)))) = some (!decide (TestOK n t)) := by
  have hR : ((R t.A).bind fun y => if (!y) = true then some true else ((R t.B).bind fun z => some (!z))) = some (!decide (RE n t.A ∧ RE n t.B)) := by
    rw [hA, hB]
    by_cases a : RE n t.A <;> by_cases b : RE n t.B <;> simp [a, b]
  rw [hR]
  unfold TestOK
  by_cases h1 : t.Op = sLt1
  · simp [h1]
  · by_cases h2 : t.Op = sLe1
    · simp [h2]
    · by_cases h3 : t.Op = sEq1
      · simp [h3]
      · simp [h1, h2, h3]
theorem all_mem {α : Type} {xs : List α} {p : α → Bool} {q : Nat → Bool} (h : ∀ i x, xs[i]? = some x → q i = p x) : (List.range xs.length).all q = xs.all p := by
  rw [Bool.eq_iff_iff, List.all_eq_true, List.all_eq_true]
  constructor
  · intro hq x hx
    obtain ⟨i, hi, rfl⟩ := List.getElem_of_mem hx
    rw [← h i _ (List.getElem?_eq_getElem hi)]
    exact hq i (List.mem_range.2 hi)
  · intro hp i hi
    have hi := List.mem_range.1 hi
    rw [h i _ (List.getElem?_eq_getElem hi)]
    exact hp _ (List.getElem_mem hi)
open Classical in
theorem ctl_forP {α R β : Type} {xs : List α} {B : Nat → Unit → Option (Ctl Unit R)} {r : R} {kr : R → Option β} {k : Unit → Option β} (p : α → Prop) (h : ∀ i x, xs[i]? = some x → B i () = some (if decide (p x) then .next () else .ret r)) :
    ctl (forC B xs.length 0 ()) kr k = if (∀ x ∈ xs, p x) then k () else kr r := by
  rw [ctl_all (r := r) (p := fun i => match xs[i]? with | some x => decide (p x) | none => true)]
  · rw [all_mem (p := fun x => decide (p x)) (fun i x hx => by simp only [hx])]
    by_cases hall : ∀ x ∈ xs, p x
    · rw [if_pos hall, if_pos (by rw [List.all_eq_true]; exact fun x hx => decide_eq_true (hall x hx))]
    · rw [if_neg hall, if_neg (by rw [List.all_eq_true]; exact fun hh => hall fun x hx => of_decide_eq_true (hh x hx))]
  · intro j hj
    obtain ⟨x, hx⟩ := get_len hj
    rw [h j x hx]
    simp only [hx]
open Classical in
theorem ctl_whileP {α R β : Type} {xs : List α} {B : Int → Option (Ctl Int R)} {r : R} {kr : R → Option β} {k : Int → Option β} (p : α → Prop) (h : ∀ (i : Nat) x, xs[i]? = some x → B (i : Int) = some (if decide (p x) then .next ((i + 1 : Nat) : Int) else .ret r))
    (hb : B (xs.length : Int) = some (.brk (xs.length : Int))) : ctl (whileC B 0) kr k = if (∀ x ∈ xs, p x) then k (xs.length : Int) else kr r := by
  rw [while_all (r := r) (n := xs.length) (p := fun i => match xs[i]? with | some x => decide (p x) | none => true)]
  · rw [all_mem (p := fun x => decide (p x)) (fun i x hx => by simp only [hx])]
    by_cases hall : ∀ x ∈ xs, p x
    · rw [if_pos hall, if_pos (by rw [List.all_eq_true]; exact fun x hx => decide_eq_true (hall x hx))]
    · rw [if_neg hall, if_neg (by rw [List.all_eq_true]; exact fun hh => hall fun x hx => of_decide_eq_true (hh x hx))]
  · intro j hj
    obtain ⟨x, hx⟩ := get_len hj
    rw [h j x hx]
    simp only [hx]
  · exact hb
section
variable {fu : Nat} {g : Ground} {c : Cond}
open Classical in
theorem cond_ok (hl : LenC c) (hs : SizeOf.sizeOf c ≤ fu) : ground_condition_p fu g c = some (decide (CondOK (g.Atoms.length : Int) (g.Fluents.length : Int) c)) := by
  unfold ground_condition_p
  rw [ctl_forP (r := false) (fun t => TestOK (g.Fluents.length : Int) t)]
  · rw [indices_ok _ _ hl.p, indices_ok _ _ hl.n]
    by_cases h : ∀ t ∈ c.Tests, TestOK (g.Fluents.length : Int) t
    · rw [if_pos h]
      by_cases hp : Asc c.Pos (g.Atoms.length : Int)
      · by_cases hn : Asc c.Neg (g.Atoms.length : Int)
        · rw [decide_eq_true (CondOK.mk hp hn h)]; simp [hp, hn]
        · rw [decide_eq_false (fun q : CondOK _ _ c => hn q.n)]; simp [hp, hn]
      · rw [decide_eq_false (fun q : CondOK _ _ c => hp q.p)]; simp [hp]
    · rw [if_neg h, decide_eq_false (fun q : CondOK _ _ c => h q.t)]
  · intro i t ht
    have hm := List.mem_of_getElem? ht
    have hz := test_size hm
    simp only [idx_nat, ht, Option.bind_some]
    rw [test_body (R := fun e => ground_right_p fu e (g.Fluents.length : Int)) (right_ok fu _ _ (by omega)) (right_ok fu _ _ (by omega))]
    by_cases q : TestOK (g.Fluents.length : Int) t <;> simp [q]
end
end Go.Pw
/-
  Valid ground tasks, in plain Lean: operators and tasks.
-/
set_option maxHeartbeats 8000000
namespace Go.Pw
def ChrOK (x : Int) : Prop := 32 ≤ x ∧ x ≤ 126
def FluOK (f : GFluent) : Prop := -1099511627776 ≤ f.Lo ∧ f.Lo ≤ f.Init ∧ f.Init ≤ f.Hi ∧ f.Hi ≤ 1099511627776 ∧ f.Hi - f.Lo < 64
structure ChgOK (na nf : Int) (c : GChange) : Prop where
  r0 : 0 ≤ c.Atom
  r1 : c.Atom < na
  w : CondOK na nf c.When
/-- The j-th assignment is right, and none before it is of its fluent. -/
def AssAt (nf : Int) (l : List GAssign) (j : Nat) : Prop := ∀ a, l[j]? = some a → 0 ≤ a.Fluent ∧ a.Fluent < nf ∧ (∀ k b, k < j → l[k]? = some b → b.Fluent ≠ a.Fluent) ∧ RE nf a.Value
structure GOpOK (na nf : Int) (o : GOp) : Prop where
  c0 : 0 ≤ o.Cost
  c1 : o.Cost ≤ 1048576
  nm : o.Name.size ≤ 256
  ch : ∀ x ∈ bytesOf o.Name, ChrOK x
  nc : o.Changes.length ≤ 256
  pre : CondOK na nf o.Pre
  chg : ∀ c ∈ o.Changes, ChgOK na nf c
  as : ∀ j, AssAt nf o.Assigns j
structure ValidG (g : Ground) : Prop where
  a : g.Atoms.length ≤ 4096
  f : g.Fluents.length ≤ 4096
  o : g.Ops.length ≤ 4096
  gl : g.Goal.length ≤ 64
  i : Asc g.Init (g.Atoms.length : Int)
  flu : ∀ f ∈ g.Fluents, FluOK f
  goal : ∀ c ∈ g.Goal, CondOK (g.Atoms.length : Int) (g.Fluents.length : Int) c
  op : ∀ o ∈ g.Ops, GOpOK (g.Atoms.length : Int) (g.Fluents.length : Int) o
open Classical in
theorem named_ok (s : ByteArray) (hl : s.size ≤ 9223372036854775807) : ground_named_p s = some (decide ((∀ x ∈ bytesOf s, ChrOK x) ∧ s.size ≤ 256)) := by
  unfold ground_named_p
  have hb := bytesOf_length s
  rw [show must (decide ((s.size : Int) ≤ 9223372036854775807)) = some () by simp [must]; omega]
  simp only [Option.bind_some]
  rw [show ((s.size : Int)).toNat = (bytesOf s).length by rw [hb]; simp]
  rw [ctl_forP (r := false) ChrOK]
  · by_cases h : ∀ x ∈ bytesOf s, ChrOK x
    · rw [if_pos h]
      congr 1
      exact decide_eq_decide.2 ⟨fun q => ⟨h, by omega⟩, fun q => by have := q.2; omega⟩
    · rw [if_neg h, decide_eq_false fun q => h q.1]
  · intro i x hx
    simp only [idx_nat, hx, Option.bind_some]
    by_cases h1 : x < 32
    · rw [if_pos (decide_eq_true h1), decide_eq_false (fun q : ChrOK x => by have := q.1; omega)]; rfl
    · rw [if_neg (by simpa using h1)]
      by_cases h2 : 126 < x
      · rw [decide_eq_true h2, decide_eq_false (fun q : ChrOK x => by have := q.2; omega)]; rfl
      · rw [decide_eq_false h2, decide_eq_true (show ChrOK x from ⟨by omega, by omega⟩)]; rfl
section
variable {fu : Nat} {g : Ground}
open Classical in
theorem chg_body {R : Cond → Option Bool} {na nf : Int} {c : GChange} (hR : R c.When = some (decide (CondOK na nf c.When))) :
    (if decide (c.Atom < 0) = true then some true else (if decide (na ≤ c.Atom) = true then some true else ((R c.When).bind fun y => some (!y)))) = some (!decide (ChgOK na nf c)) := by
  by_cases h1 : c.Atom < 0
  · rw [if_pos (decide_eq_true h1), decide_eq_false (fun q : ChgOK na nf c => by have := q.r0; omega)]; rfl
  · rw [if_neg (by simpa using h1)]
    by_cases h2 : na ≤ c.Atom
    · rw [if_pos (decide_eq_true h2), decide_eq_false (fun q : ChgOK na nf c => by have := q.r1; omega)]; rfl
    · rw [if_neg (by simpa using h2), hR]
      simp only [Option.bind_some]
      congr 2
      exact decide_eq_decide.2 ⟨fun q => ⟨by omega, by omega, q⟩, fun q => q.w⟩
open Classical in
theorem assigns_g {nf : Int} {l : List GAssign} (hn : nf ≤ 9223372036854775806) (hl : l.length ≤ 9223372036854775807) (hs : ∀ a ∈ l, SizeOf.sizeOf a.Value < fu) :
    ctl (forC (R := (Bool)) (fun i101 => fun (l100 : BMap) => (idx l (i101 : Int)).bind fun x101 =>
      (if decide (x101.Fluent < 0) then (some true)
      else (if decide (nf ≤ x101.Fluent) then (some true)
      else ((bmapGet l100 x101.Fluent).bind fun q100 =>
      if q100 then (some true)
      else ((ground_right_p fu x101.Value nf).bind <| fun (y103 : Bool) =>
      some (!y103))))).bind (fun (z102 : Bool) => if z102 then (some (Ctl.ret false))
      else ((bmapPut l100 x101.Fluent true).bind fun m100 =>
      some (Ctl.next m100)))) (l.length) 0 ([] : BMap)) (fun r => some r) (fun (l101 : BMap) => some true) = some (decide (∀ j, AssAt nf l j)) := by
  refine Ok.eq (Ok.ctl (fun j (m : BMap) => m.length ≤ j ∧ (∀ k, k < j → AssAt nf l k) ∧ ∀ f : Int, (bget m f = some true ↔ ∃ k b, k < j ∧ l[k]? = some b ∧ b.Fluent = f) ∧ (bget m f).getD false = (bget m f).isSome) (fun r => r = false ∧ ∃ j, ¬ AssAt nf l j) ⟨by simp, fun k hk => absurd hk (Nat.not_lt_zero k), fun f => ⟨⟨fun h => by simp [bget] at h, fun ⟨k, b, hk, _⟩ => absurd hk (Nat.not_lt_zero k)⟩, rfl⟩⟩ ?_ ?_ ?_)
  · rintro j m hj ⟨h1, h2, h3⟩
    obtain ⟨a, ha⟩ := get_len hj
    have ham := List.mem_of_getElem? ha
    simp only [idx_nat, ha, Option.bind_some]
    have bad : ¬ AssAt nf l j → Ok (some (Ctl.ret (S := BMap) false)) (CtlP (fun (m : BMap) => m.length ≤ j + 1 ∧ (∀ k, k < j + 1 → AssAt nf l k) ∧ ∀ f : Int, (bget m f = some true ↔ ∃ k b, k < j + 1 ∧ l[k]? = some b ∧ b.Fluent = f) ∧ (bget m f).getD false = (bget m f).isSome) (fun r => r = false ∧ ∃ j, ¬ AssAt nf l j)) := fun h => Ok.ret ⟨rfl, j, h⟩
    by_cases b1 : a.Fluent < 0
    · rw [if_pos (decide_eq_true b1)]
      exact bad fun q => by have := (q a ha).1; omega
    rw [if_neg (by simpa using b1)]
    by_cases b2 : nf ≤ a.Fluent
    · rw [if_pos (decide_eq_true b2)]
      exact bad fun q => by have := (q a ha).2.1; omega
    rw [if_neg (by simpa using b2)]
    have hok : i64ok a.Fluent := ⟨by omega, by omega⟩
    have hget : bmapGet m a.Fluent = some ((bget m a.Fluent).getD false) := by unfold bmapGet; rw [if_pos hok]
    rw [hget]
    simp only [Option.bind_some]
    by_cases b3 : bget m a.Fluent = some true
    · rw [b3]
      simp only [Option.getD_some, if_true, Option.bind_some]
      obtain ⟨k, b, hk, hb, hf⟩ := (h3 a.Fluent).1.1 b3
      exact bad fun q => (q a ha).2.2.1 k b hk hb hf
    have b3' : (bget m a.Fluent).getD false = false := by
      cases hq : bget m a.Fluent with
      | none => rfl
      | some v =>
        cases v with
        | false => rfl
        | true => exact absurd hq b3
    rw [b3']
    simp only [Bool.false_eq_true, if_false, right_ok fu a.Value nf (hs a ham), Option.bind_some]
    by_cases b4 : RE nf a.Value
    rotate_left
    · simp only [b4, decide_false, Bool.not_false, if_true]
      exact bad fun q => b4 (q a ha).2.2.2
    simp only [b4, decide_true, Bool.not_true, Bool.false_eq_true, if_false]
    have hput : bmapPut m a.Fluent true = some (bput m a.Fluent true) := by
      unfold bmapPut
      rw [if_pos ⟨hok, by show m.length < 9223372036854775807; omega⟩]
    rw [hput]
    simp only [Option.bind_some]
    refine Ok.ret ⟨?_, fun k hk => ?_, fun f => ⟨?_, ?_⟩⟩
    · rw [bput_length]; split <;> omega
    · by_cases e : k = j
      · subst e
        intro a' ha'
        rw [ha] at ha'; cases ha'
        exact ⟨by omega, by omega, fun k b hk hb hf => b3 ((h3 a.Fluent).1.2 ⟨k, b, hk, hb, hf⟩), b4⟩
      · exact h2 k (by omega)
    · rw [bget_put]
      by_cases e : a.Fluent = f
      · rw [if_pos e]
        exact ⟨fun _ => ⟨j, a, by omega, ha, e⟩, fun _ => rfl⟩
      · rw [if_neg e, (h3 f).1]
        constructor
        · rintro ⟨k, b, hk, hb, hf⟩; exact ⟨k, b, by omega, hb, hf⟩
        · rintro ⟨k, b, hk, hb, hf⟩
          refine ⟨k, b, ?_, hb, hf⟩
          by_cases e2 : k = j
          · subst e2; rw [ha] at hb; cases hb; exact absurd hf e
          · omega
    · rw [bget_put]
      by_cases e : a.Fluent = f
      · rw [if_pos e]; rfl
      · rw [if_neg e]; exact (h3 f).2
  · rintro r ⟨rfl, j, hj⟩
    refine Ok.ret ?_
    rw [decide_eq_false fun q => hj (q j)]
  · rintro m ⟨_, h2, _⟩
    refine Ok.ret ?_
    rw [decide_eq_true]
    intro j a ha
    exact h2 j (List.getElem?_eq_some_iff.1 ha).1 a ha
open Classical in
theorem op_ok {o : GOp} (hf : g.Fluents.length ≤ 9223372036854775806) (hl : LenO o) (hs : SizeOf.sizeOf o ≤ fu) : ground_operator_p fu g o = some (decide (GOpOK (g.Atoms.length : Int) (g.Fluents.length : Int) o)) := by
  have hpre := pre_size o
  unfold ground_operator_p
  rw [named_ok _ hl.nm, cond_ok hl.pre (by omega)]
  have no : ∀ {q : Prop}, (GOpOK (g.Atoms.length : Int) (g.Fluents.length : Int) o → False) → some false = some (decide (GOpOK (g.Atoms.length : Int) (g.Fluents.length : Int) o)) := fun h => by rw [decide_eq_false h]
  by_cases c1 : 256 < (o.Changes.length : Int)
  · rw [if_pos (decide_eq_true c1)]; exact no (q := True) fun h => by have := h.nc; omega
  rw [if_neg (by simpa using c1)]
  by_cases c2 : o.Cost < 0
  · rw [if_pos (decide_eq_true c2)]; exact no (q := True) fun h => by have := h.c0; omega
  rw [if_neg (by simpa using c2)]
  by_cases c3 : 1048576 < o.Cost
  · rw [if_pos (decide_eq_true c3)]; exact no (q := True) fun h => by have := h.c1; omega
  rw [if_neg (by simpa using c3)]
  simp only [Option.bind_some]
  by_cases c4 : (∀ x ∈ bytesOf o.Name, ChrOK x) ∧ o.Name.size ≤ 256
  rotate_left
  · rw [decide_eq_false c4]; exact no (q := True) fun h => c4 ⟨h.ch, h.nm⟩
  rw [decide_eq_true c4]
  by_cases c5 : CondOK (g.Atoms.length : Int) (g.Fluents.length : Int) o.Pre
  rotate_left
  · rw [decide_eq_false c5]; exact no (q := True) fun h => c5 h.pre
  rw [decide_eq_true c5]
  simp only [Bool.not_true, Bool.false_eq_true, if_false, Option.bind_some]
  rw [ctl_forP (r := false) (ChgOK (g.Atoms.length : Int) (g.Fluents.length : Int))]
  · rw [assigns_g (by omega) hl.as fun a ha => by have := value_size ha; omega]
    by_cases c6 : ∀ c ∈ o.Changes, ChgOK (g.Atoms.length : Int) (g.Fluents.length : Int) c
    · rw [if_pos c6]
      congr 1
      exact decide_eq_decide.2 ⟨fun h => ⟨by omega, by omega, c4.2, c4.1, by omega, c5, c6, h⟩, fun h => h.as⟩
    · rw [if_neg c6]; exact no (q := True) fun h => c6 h.chg
  · intro i c hc
    have hm := List.mem_of_getElem? hc
    have hw := when_size hm
    simp only [idx_nat, hc, Option.bind_some]
    rw [chg_body (R := fun w => ground_condition_p fu g w) (cond_ok (hl.whn c hm) (by omega))]
    by_cases q : ChgOK (g.Atoms.length : Int) (g.Fluents.length : Int) c <;> simp [q]
open Classical in
theorem flu_dec (f : GFluent) : ground_fluent_t f = decide (FluOK f) := by
  have h := ground_fluent_tot f
  unfold ground_fluent_p at h
  rw [← Zu h]
  by_cases q : FluOK f
  · obtain ⟨a, b, c, d, e⟩ := q
    rw [decide_eq_true (show FluOK f from ⟨a, b, c, d, e⟩), wrap_id (by omega) (by omega)]
    simp [a, b, c, d, e]
  · rw [decide_eq_false q, Bool.eq_false_iff]
    intro hh
    simp only [Bool.and_eq_true, decide_eq_true_eq] at hh
    obtain ⟨a, b, c, d, e⟩ := hh
    rw [wrap_id (by omega) (by omega)] at e
    exact q ⟨a, b, c, d, e⟩
/-- The first place of a row that a test takes. -/
theorem find_ok {α : Type} {xs : List α} {B : Nat → Unit → Option (Ctl Unit Int)} {f : α → Bool} (h : ∀ i x, xs[i]? = some x → B i () = some (if f x then .ret (i : Int) else .next ())) :
    ∃ n : Int, ctl (forC B xs.length 0 ()) (fun r => some r) (fun (_ : Unit) => some (-1)) = some n ∧ (0 ≤ n ↔ ∃ x ∈ xs, f x = true) := by
  have : Ok (Go.Pw.ctl (forC B xs.length 0 ()) (fun r => some r) (fun (_ : Unit) => some (-1))) fun n => 0 ≤ n ↔ ∃ x ∈ xs, f x = true := by
    refine Ok.ctl (fun j _ => ∀ (i : Nat) x, i < j → xs[i]? = some x → f x = false) (fun r => 0 ≤ r ∧ ∃ x ∈ xs, f x = true) (fun i x hi => absurd hi (Nat.not_lt_zero i)) ?_ ?_ ?_
    · intro j _ hj hI
      obtain ⟨x, hx⟩ := get_len hj
      rw [h j x hx]
      cases hf : f x with
      | true => exact Ok.ret ⟨by omega, x, List.mem_of_getElem? hx, hf⟩
      | false =>
        refine Ok.ret fun i y hi hy => ?_
        by_cases e : i = j
        · subst e; rw [hx] at hy; cases hy; exact hf
        · exact hI i y (by omega) hy
    · rintro r ⟨h0, hx⟩
      exact Ok.ret ⟨fun _ => hx, fun _ => h0⟩
    · rintro _ hI
      refine Ok.ret ⟨fun h => by omega, ?_⟩
      rintro ⟨x, hx, hf⟩
      obtain ⟨i, hi, rfl⟩ := List.getElem_of_mem hx
      have := hI i _ hi (List.getElem?_eq_getElem hi)
      rw [this] at hf; cases hf
  exact this
open Classical in
theorem valid_ok (hl : LenG g) (hs : SizeOf.sizeOf g ≤ fu) : ground_Valid_p fu g = some (decide (ValidG g)) := by
  unfold ground_Valid_p
  by_cases h1 : g.Atoms.length ≤ 4096 ∧ g.Fluents.length ≤ 4096 ∧ g.Ops.length ≤ 4096 ∧ g.Goal.length ≤ 64
  rotate_left
  · rw [decide_eq_false (fun h : ValidG g => h1 ⟨h.a, h.f, h.o, h.gl⟩), if_pos]
    simp only [Bool.or_eq_true, decide_eq_true_eq]
    omega
  obtain ⟨a1, a2, a3, a4⟩ := h1
  rw [if_neg (by simp only [Bool.or_eq_true, decide_eq_true_eq]; omega)]
  -- fluents
  obtain ⟨n1, e1, k1⟩ := find_ok (xs := g.Fluents) (B := fun i300 => fun (_ : Unit) => (idx g.Fluents (i300 : Int)).bind fun x393 => if (ground_Valid_c1_t x393) then (some (Ctl.ret (i300 : Int))) else (some (Ctl.next ()))) (f := fun f => !decide (FluOK f)) (by
    intro i x hx
    simp only [idx_nat, hx, Option.bind_some]
    have := ground_Valid_c1_tot x
    unfold ground_Valid_c1_p at this
    rw [← Zu this, flu_dec]
    by_cases q : FluOK x <;> simp [q])
  have f1 : api_GFluent__f52_p g.Fluents = some (decide (0 ≤ n1)) := by
    unfold api_GFluent__f52_p api_GFluent__f52_87_p
    rw [e1]; rfl
  -- the goal
  obtain ⟨n2, e2, k2⟩ := find_ok (xs := g.Goal) (B := fun i100 => fun (_ : Unit) => (idx g.Goal (i100 : Int)).bind fun x100 => (ground_Valid_c2_p fu x100 g).bind <| fun (y100 : Bool) => if y100 then (some (Ctl.ret (i100 : Int))) else (some (Ctl.next ()))) (f := fun c => !decide (CondOK (g.Atoms.length : Int) (g.Fluents.length : Int) c)) (by
    intro i x hx
    have hm := List.mem_of_getElem? hx
    have hz := goal_size hm
    simp only [idx_nat, hx, Option.bind_some]
    unfold ground_Valid_c2_p
    rw [cond_ok (hl.goal x hm) (by omega)]
    by_cases q : CondOK (g.Atoms.length : Int) (g.Fluents.length : Int) x <;> simp [q])
  have f2 : api_Cond__f56_p fu g.Goal g = some (decide (0 ≤ n2)) := by
    unfold api_Cond__f56_p api_Cond__f56_88_p
    rw [e2]; rfl
  -- the operators
  obtain ⟨n3, e3, k3⟩ := find_ok (xs := g.Ops) (B := fun i100 => fun (_ : Unit) => (idx g.Ops (i100 : Int)).bind fun x100 => (ground_Valid_c3_p fu x100 g).bind <| fun (y100 : Bool) => if y100 then (some (Ctl.ret (i100 : Int))) else (some (Ctl.next ()))) (f := fun o => !decide (GOpOK (g.Atoms.length : Int) (g.Fluents.length : Int) o)) (by
    intro i x hx
    have hm := List.mem_of_getElem? hx
    have hz := op_size hm
    simp only [idx_nat, hx, Option.bind_some]
    unfold ground_Valid_c3_p
    rw [op_ok (by omega) (hl.op x hm) (by omega)]
    by_cases q : GOpOK (g.Atoms.length : Int) (g.Fluents.length : Int) x <;> simp [q])
  have f3 : api_GOp__f59_p fu g.Ops g = some (decide (0 ≤ n3)) := by
    unfold api_GOp__f59_p api_GOp__f59_90_p
    rw [e3]; rfl
  rw [f1, f2, f3, indices_ok _ _ hl.i]
  simp only [Option.bind_some]
  have c1 : 0 ≤ n1 ↔ ¬ ∀ f ∈ g.Fluents, FluOK f := by rw [k1]; simp
  have c2 : 0 ≤ n2 ↔ ¬ ∀ c ∈ g.Goal, CondOK (g.Atoms.length : Int) (g.Fluents.length : Int) c := by rw [k2]; simp
  have c3 : 0 ≤ n3 ↔ ¬ ∀ o ∈ g.Ops, GOpOK (g.Atoms.length : Int) (g.Fluents.length : Int) o := by rw [k3]; simp
  by_cases b1 : 0 ≤ n1
  · rw [decide_eq_false (fun h : ValidG g => c1.1 b1 h.flu)]; simp [b1]
  by_cases b0 : Asc g.Init (g.Atoms.length : Int)
  rotate_left
  · rw [decide_eq_false (fun h : ValidG g => b0 h.i)]; simp [b1, b0]
  by_cases b2 : 0 ≤ n2
  · rw [decide_eq_false (fun h : ValidG g => c2.1 b2 h.goal)]; simp [b1, b0, b2]
  by_cases b3 : 0 ≤ n3
  · rw [decide_eq_false (fun h : ValidG g => c3.1 b3 h.op)]; simp [b1, b0, b2, b3]
  rw [decide_eq_true (show ValidG g from ⟨a1, a2, a3, a4, b0, Classical.byContradiction fun h => b1 (c1.2 h), Classical.byContradiction fun h => b2 (c2.2 h), Classical.byContradiction fun h => b3 (c3.2 h)⟩)]
  simp [b1, b0, b2, b3]
end
end Go.Pw
/-
  Marks on atoms and fluents, in plain Lean: the program's marking of expressions and conditions.
-/
set_option maxHeartbeats 8000000
namespace Go.Pw
/-- The fluents of an expression. -/
inductive FL : GExpr → Int → Prop
  | here {e : GExpr} : e.Op = sFlu → FL e e.N
  | kid {e k : GExpr} {i : Int} : k ∈ e.Kids → FL k i → FL e i
def CAt (c : Cond) (i : Int) : Prop := i ∈ c.Pos ∨ i ∈ c.Neg
def CFl (c : Cond) (i : Int) : Prop := ∃ t ∈ c.Tests, FL t.A i ∨ FL t.B i
theorem RE.fl {n : Int} {e : GExpr} (h : RE n e) : ∀ {i : Int}, FL e i → 0 ≤ i ∧ i < n := by
  induction h with
  | num a b =>
    intro i hi
    cases hi with
    | here q => simp at q
    | kid q => simp at q
  | flu a b =>
    intro i hi
    cases hi with
    | here q => exact ⟨a, b⟩
    | kid q => simp at q
  | bin ho ha hb iha ihb =>
    intro i hi
    cases hi with
    | here q =>
      simp only at q
      subst q
      rcases ho with h | h | h <;> simp at h
    | kid q r =>
      simp only [List.mem_cons, List.not_mem_nil, or_false] at q
      rcases q with rfl | rfl
      · exact iha r
      · exact ihb r
/-- A' is A with all of S marked. -/
structure MarkS (A A' : List Bool) (S : Int → Prop) : Prop where
  len : A'.length = A.length
  iff : ∀ i : Nat, A'[i]? = some true ↔ A[i]? = some true ∨ (i < A.length ∧ S (i : Int))
theorem MarkS.refl (A : List Bool) {S : Int → Prop} (h : ∀ i, ¬ S i) : MarkS A A S := ⟨rfl, fun i => ⟨.inl, fun q => q.elim id fun q => absurd q.2 (h _)⟩⟩
theorem MarkS.trans {A B C : List Bool} {S T : Int → Prop} (h : MarkS A B S) (k : MarkS B C T) : MarkS A C (fun i => S i ∨ T i) := by
  refine ⟨by rw [k.len, h.len], fun i => ?_⟩
  rw [k.iff, h.iff, h.len]
  constructor
  · rintro ((a | ⟨a, b⟩) | ⟨a, b⟩)
    · exact .inl a
    · exact .inr ⟨a, .inl b⟩
    · exact .inr ⟨a, .inr b⟩
  · rintro (a | ⟨a, b | b⟩)
    · exact .inl (.inl a)
    · exact .inl (.inr ⟨a, b⟩)
    · exact .inr ⟨a, b⟩
theorem MarkS.congr {A A' : List Bool} {S T : Int → Prop} (h : MarkS A A' S) (k : ∀ i, 0 ≤ i → i < (A.length : Int) → (S i ↔ T i)) : MarkS A A' T := by
  refine ⟨h.len, fun i => ?_⟩
  rw [h.iff]
  constructor
  · rintro (a | ⟨a, b⟩)
    · exact .inl a
    · exact .inr ⟨a, (k _ (by omega) (by omega)).1 b⟩
  · rintro (a | ⟨a, b⟩)
    · exact .inl a
    · exact .inr ⟨a, (k _ (by omega) (by omega)).2 b⟩
theorem MarkS.up {A A' : List Bool} {S : Int → Prop} (h : MarkS A A' S) {i : Nat} (q : A[i]? = some true) : A'[i]? = some true := (h.iff i).2 (.inl q)
theorem MarkS.set {A : List Bool} {i : Int} (h0 : 0 ≤ i) (h1 : i < (A.length : Int)) : MarkS A (A.set i.toNat true) (fun j => j = i) := by
  refine ⟨by simp, fun j => ?_⟩
  by_cases e : j = i.toNat
  · subst e
    rw [List.getElem?_set_self (by omega)]
    exact ⟨fun _ => .inr ⟨by omega, by omega⟩, fun _ => rfl⟩
  · rw [List.getElem?_set_ne (Ne.symm e)]
    exact ⟨.inl, fun q => q.elim id fun q => absurd q.2 (by omega)⟩
def cnt (A : List Bool) : Nat := A.count true
theorem cnt_mono : ∀ {A B : List Bool}, B.length = A.length → (∀ i : Nat, A[i]? = some true → B[i]? = some true) → cnt A ≤ cnt B ∧ (cnt A = cnt B → B = A)
  | [], [], _, _ => ⟨Nat.le_refl _, fun _ => rfl⟩
  | a :: A, [], h, _ => by simp at h
  | [], b :: B, h, _ => by simp at h
  | a :: A, b :: B, h, k => by
    obtain ⟨h1, h2⟩ := cnt_mono (A := A) (B := B) (by simpa using h) (fun i hi => by simpa using k (i + 1) (by simpa using hi))
    have k0 : a = true → b = true := fun e => by simpa [e] using k 0 (by simp [e])
    unfold cnt at *
    cases a with
    | true =>
      rw [k0 rfl, List.count_cons_self, List.count_cons_self]
      exact ⟨by omega, fun e => by rw [h2 (by omega)]⟩
    | false =>
      cases b with
      | true =>
        rw [List.count_cons_self, List.count_cons_of_ne (by simp)]
        exact ⟨by omega, fun e => by omega⟩
      | false =>
        rw [List.count_cons_of_ne (by simp), List.count_cons_of_ne (by simp)]
        exact ⟨h1, fun e => by rw [h2 e]⟩
theorem MarkS.cnt {A B : List Bool} {S : Int → Prop} (h : MarkS A B S) : Go.Pw.cnt A ≤ Go.Pw.cnt B ∧ (Go.Pw.cnt A = Go.Pw.cnt B → B = A) := cnt_mono h.len fun i q => h.up q
/-- What the program's flag says. -/
structure Flag (z : Bool) (A : List Bool) (z' : Bool) (A' : List Bool) : Prop where
  q : z' = false → z = false ∧ A' = A
  t : z' = true → z = true ∨ Go.Pw.cnt A < Go.Pw.cnt A'
theorem Flag.refl (z : Bool) (A : List Bool) : Flag z A z A := ⟨fun h => ⟨h, rfl⟩, fun h => .inl h⟩
theorem Flag.trans {z z' z'' : Bool} {A B C : List Bool} (h : Flag z A z' B) (k : Flag z' B z'' C) (m : cnt A ≤ cnt B) (n : cnt B ≤ cnt C) : Flag z A z'' C := by
  refine ⟨fun e => ?_, fun e => ?_⟩
  · obtain ⟨a, b⟩ := k.q e
    obtain ⟨c, d⟩ := h.q a
    exact ⟨c, b.trans d⟩
  · rcases k.t e with a | a
    · rcases h.t a with b | b
      · exact .inl b
      · exact .inr (by omega)
    · exact .inr (by omega)
theorem setI_int {α : Type} {xs : List α} {i : Int} {y : α} (h0 : 0 ≤ i) (h1 : i < (xs.length : Int)) : setI xs i y = some (xs.set i.toNat y) := by
  obtain ⟨n, rfl⟩ := Int.eq_ofNat_of_zero_le h0
  rw [setI_nat (by omega)]; simp
theorem idx_int {α : Type} {xs : List α} {i : Int} (h0 : 0 ≤ i) : idx xs i = xs[i.toNat]? := by unfold idx; rw [if_pos h0]
theorem set_same {A : List Bool} {i : Nat} (h : A[i]? = some true) : A.set i true = A := by
  apply List.ext_getElem?
  intro j
  by_cases e : j = i
  · subst e; rw [List.getElem?_set_self (List.getElem?_eq_some_iff.1 h).1, h]
  · rw [List.getElem?_set_ne (Ne.symm e)]
theorem mark_body {z : Bool} {A : List Bool} {i : Int} (h0 : 0 ≤ i) (h1 : i < (A.length : Int)) :
    Ok (((idx A i).bind fun x100 => (if !x100 then ((setI A i true).bind fun l100 => some (true, l100)) else (some (z, A))).bind (un2 fun (z100 : Bool) (l101 : (List Bool)) => some (z100, l101)))) fun r => MarkS A r.2 (fun j => j = i) ∧ Flag z A r.1 r.2 := by
  obtain ⟨x, hx⟩ := get_len (xs := A) (i := i.toNat) (by omega)
  rw [idx_int h0, hx]
  simp only [Option.bind_some]
  have hm := MarkS.set h0 h1
  cases x with
  | true =>
    simp only [Bool.not_true, Bool.false_eq_true, if_false, Option.bind_some, un2]
    rw [set_same hx] at hm
    exact Ok.ret ⟨hm, Flag.refl z A⟩
  | false =>
    simp only [Bool.not_false, if_true, setI_int h0 h1, Option.bind_some, un2]
    refine Ok.ret ⟨hm, Flag.mk (fun e => by cases e) (fun _ => .inr ?_)⟩
    obtain ⟨a, b⟩ := hm.cnt
    have hne : cnt A ≠ cnt (A.set i.toNat true) := fun e => by
      have := b e
      have h2 : (A.set i.toNat true)[i.toNat]? = some true := List.getElem?_set_self (by omega)
      rw [this, hx] at h2; cases h2
    show cnt A < cnt (A.set i.toNat true)
    omega
theorem mark_a {A F : List Bool} {z : Bool} {i : Int} (h0 : 0 ≤ i) (h1 : i < (A.length : Int)) : Ok (simplify_sets_mark_p ⟨A, F, z⟩ i) fun r => MarkS A r.2 (fun j => j = i) ∧ Flag z A r.1 r.2 := mark_body h0 h1
theorem mark_f {A F : List Bool} {z : Bool} {i : Int} (h0 : 0 ≤ i) (h1 : i < (F.length : Int)) : Ok (simplify_sets_mark_105_p ⟨A, F, z⟩ i) fun r => MarkS F r.2 (fun j => j = i) ∧ Flag z F r.1 r.2 := mark_body h0 h1
theorem take_snoc {α : Type} {l : List α} {i : Nat} {x : α} (h : l[i]? = some x) : l.take (i + 1) = l.take i ++ [x] := by rw [List.take_add_one, h]; rfl
theorem mexpr_ok : ∀ (fu : Nat) {A F : List Bool} {z : Bool} (e : GExpr), SizeOf.sizeOf e < fu → (∀ i, FL e i → 0 ≤ i ∧ i < (F.length : Int)) → Ok (simplify_sets_expr_p fu ⟨A, F, z⟩ e) fun r => MarkS F r.2 (FL e) ∧ Flag z F r.1 r.2
  | 0, A, F, z, e, h, _ => absurd h (Nat.not_lt_zero _)
  | fu + 1, A, F, z, e, h, hr => by
    rw [simplify_sets_expr_p]
    have first : Ok (if decide (e.Op = (⟨#[102, 108, 117, 101, 110, 116]⟩ : ByteArray)) then ((simplify_sets_mark_105_p ⟨A, F, z⟩ e.N).bind <| un2 fun (z100 : Bool) (l100 : (List Bool)) => some (z100, l100)) else (some (z, F))) fun r => MarkS F r.2 (fun i => e.Op = sFlu ∧ i = e.N) ∧ Flag z F r.1 r.2 := by
      by_cases he : e.Op = sFlu
      · rw [if_pos (decide_eq_true he)]
        have hn := hr e.N (.here he)
        refine Ok.bind ((mark_f hn.1 hn.2).mono ?_)
        rintro ⟨z1, l1⟩ ⟨m1, m2⟩
        exact Ok.ret ⟨m1.congr fun i _ _ => ⟨fun q => ⟨he, q⟩, fun q => q.2⟩, m2⟩
      · rw [if_neg (by simpa using he)]
        exact Ok.ret ⟨MarkS.refl F fun i q => he q.1, Flag.refl z F⟩
    refine Ok.bind (first.mono ?_)
    rintro ⟨z1, F1⟩ ⟨m1, m2⟩
    simp only at m1 m2
    simp only [un2]
    refine Ok.bind (Ok.forS (fun j (q : Bool × List Bool) => MarkS F1 q.2 (fun i => ∃ k ∈ e.Kids.take j, FL k i) ∧ Flag z1 F1 q.1 q.2) ⟨MarkS.refl F1 (by simp), Flag.refl z1 F1⟩ ?_ ?_)
    · rintro j ⟨z2, F2⟩ hj ⟨n1, n2⟩
      simp only at n1 n2
      obtain ⟨k, hk⟩ := get_len hj
      have hkm := List.mem_of_getElem? hk
      have hsz := kid_size hkm
      simp only [un2, idx_nat, hk, Option.bind_some]
      refine Ok.bind ((mexpr_ok fu k (by omega) fun i hi => by
        have := hr i (.kid hkm hi)
        rw [n1.len, m1.len]; exact this).mono ?_)
      rintro ⟨z3, F3⟩ ⟨o1, o2⟩
      simp only at o1 o2
      refine Ok.ret ⟨(n1.trans o1).congr fun i _ _ => ?_, n2.trans o2 n1.cnt.1 o1.cnt.1⟩
      rw [take_snoc hk]
      constructor
      · rintro (⟨x, hx, hf⟩ | hf)
        · exact ⟨x, by simp [hx], hf⟩
        · exact ⟨k, by simp, hf⟩
      · rintro ⟨x, hx, hf⟩
        rcases List.mem_append.1 hx with hx | hx
        · exact .inl ⟨x, hx, hf⟩
        · simp only [List.mem_singleton] at hx; subst hx; exact .inr hf
    · rintro ⟨z2, F2⟩ ⟨n1, n2⟩
      simp only at n1 n2
      rw [List.take_length] at n1
      refine Ok.ret ⟨(m1.trans n1).congr fun i _ _ => ?_, m2.trans n2 m1.cnt.1 n1.cnt.1⟩
      constructor
      · rintro (⟨a, rfl⟩ | ⟨k, hk, hf⟩)
        · exact .here a
        · exact .kid hk hf
      · intro hf
        cases hf with
        | here a => exact .inl ⟨a, rfl⟩
        | kid a b => exact .inr ⟨_, a, b⟩
end Go.Pw
