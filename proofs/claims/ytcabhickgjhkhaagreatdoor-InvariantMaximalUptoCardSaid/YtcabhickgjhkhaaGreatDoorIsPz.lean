/-
  Valid ground tasks, in plain Lean, for chapter 20 (printed by mkv20.py out of chapter 19's texts).
-/
import Derived.Test.YtcabhickgjhkhaaGreatDoorIsP
import Derived.Test.YtcabhickgjhkhaaGreatDoorBB
import Derived.Test.YtcabhickgjhkhaaGreatDoorIsCl
import Derived.KernelRfl
set_option maxHeartbeats 8000000
set_option linter.unusedSimpArgs false
set_option linter.unusedVariables false
namespace Go.Pw
abbrev sNum : ByteArray := ⟨#[110, 117, 109, 98, 101, 114]⟩
abbrev sFlu : ByteArray := ⟨#[102, 108, 117, 101, 110, 116]⟩
abbrev sAdd : ByteArray := ⟨#[43]⟩
abbrev sSub : ByteArray := ⟨#[45]⟩
abbrev sMul : ByteArray := ⟨#[42]⟩
theorem get_len {α : Type} {xs : List α} {i : Nat} (h : i < xs.length) : ∃ x, xs[i]? = some x := ⟨xs[i], by simp [h]⟩
/-- Right expressions. -/
inductive RE (n : Int) : GExpr → Prop
  | num {N : Int} : -1099511627776 ≤ N → N ≤ 1099511627776 → RE n ⟨sNum, N, []⟩
  | flu {N : Int} : 0 ≤ N → N < n → RE n ⟨sFlu, N, []⟩
  | bin {op : ByteArray} {a b : GExpr} : (op = sAdd ∨ op = sSub ∨ op = sMul) → RE n a → RE n b → RE n ⟨op, 0, [a, b]⟩
theorem kid_size {e : GExpr} {k : GExpr} (h : k ∈ e.Kids) : SizeOf.sizeOf k < SizeOf.sizeOf e := by
  have := List.sizeOf_lt_of_mem h
  cases e
  simp only [GExpr.mk.sizeOf_spec] at *
  omega
open Classical in
theorem right_ok : ∀ (fu : Nat) (e : GExpr) (n : Int), SizeOf.sizeOf e < fu → ground_right_p fu e n = some (decide (RE n e))
  | 0, e, n, h => absurd h (Nat.not_lt_zero _)
  | fu + 1, ⟨op, N, kids⟩, n, h => by
    rw [ground_right_p]
    simp only
    have hkl : (kids.length : Int) = 0 ↔ kids = [] := by
      constructor
      · intro h; exact List.eq_nil_of_length_eq_zero (by omega)
      · rintro rfl; rfl
    by_cases h1 : op = sNum
    · subst h1
      have hR : RE n ⟨sNum, N, kids⟩ ↔ kids = [] ∧ -1099511627776 ≤ N ∧ N ≤ 1099511627776 := by
        constructor
        · intro hr
          cases hr with
          | num a b => exact ⟨rfl, a, b⟩
          | bin ho => rcases ho with h | h | h <;> cases h
        · rintro ⟨rfl, a, b⟩; exact .num a b
      rw [if_pos (decide_eq_true rfl), ← Bool.decide_and, ← Bool.decide_and]
      congr 1
      exact decide_eq_decide.2 (by rw [hR, hkl])
    · have h1' : ¬ (decide (op = (⟨#[110, 117, 109, 98, 101, 114]⟩ : ByteArray)) = true) := by simpa using h1
      rw [if_neg h1']
      by_cases h2 : op = sFlu
      · subst h2
        have hR : RE n ⟨sFlu, N, kids⟩ ↔ kids = [] ∧ 0 ≤ N ∧ N < n := by
          constructor
          · intro hr
            cases hr with
            | flu a b => exact ⟨rfl, a, b⟩
            | bin ho => rcases ho with h | h | h <;> cases h
          · rintro ⟨rfl, a, b⟩; exact .flu a b
        rw [if_pos (decide_eq_true rfl), ← Bool.decide_and, ← Bool.decide_and]
        congr 1
        exact decide_eq_decide.2 (by rw [hR, hkl])
      · have h2' : ¬ (decide (op = (⟨#[102, 108, 117, 101, 110, 116]⟩ : ByteArray)) = true) := by simpa using h2
        rw [if_neg h2']
        have hz : (if decide (op = (⟨#[43]⟩ : ByteArray)) = true then some (decide (op = (⟨#[43]⟩ : ByteArray))) else
            ((if decide (op = (⟨#[45]⟩ : ByteArray)) = true then some (decide (op = (⟨#[45]⟩ : ByteArray))) else some (decide (op = (⟨#[42]⟩ : ByteArray)))).bind fun (z100 : Bool) => some z100)) = some (decide (op = sAdd ∨ op = sSub ∨ op = sMul)) := by
          by_cases a : op = sAdd
          · simp [a]
          · by_cases b : op = sSub
            · simp [b]
            · simp [a, b]
        rw [hz]
        simp only [Option.bind_some]
        by_cases ho : op = sAdd ∨ op = sSub ∨ op = sMul
        · rw [if_pos (decide_eq_true ho)]
          by_cases hN : N = 0
          · subst hN
            rw [if_pos (decide_eq_true rfl)]
            by_cases hk : (kids.length : Int) = 2
            · obtain ⟨a, b, rfl⟩ : ∃ a b, kids = [a, b] := by
                match kids, hk with
                | [a, b], _ => exact ⟨a, b, rfl⟩
                | [], h => simp at h
                | [_], h => simp at h
                | _ :: _ :: _ :: _, h => simp at h; omega
              have sa : SizeOf.sizeOf a < fu := by
                have := kid_size (e := ⟨op, 0, [a, b]⟩) (k := a) (by simp)
                omega
              have sb : SizeOf.sizeOf b < fu := by
                have := kid_size (e := ⟨op, 0, [a, b]⟩) (k := b) (by simp)
                omega
              have i0 : idx [a, b] 0 = some a := rfl
              have i1 : idx [a, b] 1 = some b := rfl
              rw [if_pos (decide_eq_true hk), i0]
              simp only [Option.bind_some, right_ok fu a n sa]
              have hR : RE n ⟨op, 0, [a, b]⟩ ↔ RE n a ∧ RE n b := by
                constructor
                · intro hr
                  cases hr with
                  | bin _ p q => exact ⟨p, q⟩
                · rintro ⟨p, q⟩; exact .bin ho p q
              by_cases ra : RE n a
              · simp only [ra, decide_true, if_true, i1, Option.bind_some, right_ok fu b n sb]
                congr 1
                exact decide_eq_decide.2 (by rw [hR]; simp [ra])
              · simp only [ra, decide_false, Bool.false_eq_true, if_false, Option.bind_some]
                congr 1
                exact (decide_eq_false fun hr => ra (hR.1 hr).1).symm
            · have hk' : ¬ (decide ((kids.length : Int) = 2) = true) := by simpa using hk
              rw [if_neg hk']
              simp only [Option.bind_some]
              congr 1
              refine (decide_eq_false fun hr => ?_).symm
              cases hr with
              | bin _ _ _ => exact hk rfl
              | num => exact h1 rfl
              | flu => exact h2 rfl
          · have hN' : ¬ (decide (N = 0) = true) := by simpa using hN
            rw [if_neg hN']
            simp only [Option.bind_some]
            congr 1
            refine (decide_eq_false fun hr => ?_).symm
            cases hr with
            | bin _ _ _ => exact hN rfl
            | num => exact h1 rfl
            | flu => exact h2 rfl
        · rw [if_neg (by simpa using ho)]
          congr 1
          refine (decide_eq_false fun hr => ?_).symm
          cases hr with
          | bin q _ _ => exact ho q
          | num => exact h1 rfl
          | flu => exact h2 rfl
/-- Ascending lists of numbers below n. -/
def AscAt (l : List Int) (n : Int) (i : Nat) : Prop := ∀ x, l[i]? = some x → 0 ≤ x ∧ x < n ∧ ∀ y, 0 < i → l[i - 1]? = some y → y < x
def Asc (l : List Int) (n : Int) : Prop := ∀ i, AscAt l n i
open Classical in
theorem asc_all (l : List Int) (n : Int) : (List.range l.length).all (fun i => decide (AscAt l n i)) = decide (Asc l n) := by
  by_cases h : Asc l n
  · rw [decide_eq_true h, List.all_eq_true]
    intro i _
    exact decide_eq_true (h i)
  · rw [decide_eq_false h, Bool.eq_false_iff]
    intro hall
    apply h
    intro i x hx
    have hi := (List.getElem?_eq_some_iff.1 hx).1
    have := List.all_eq_true.1 hall i (List.mem_range.2 hi)
    exact (of_decide_eq_true this) x hx
open Classical in
theorem asc_body {l : List Int} {n : Int} {i : Nat} {x : Int} (hl : l.length ≤ 9223372036854775807) (hx : l[i]? = some x) :
    (if decide (x < 0) = true then some true else if decide (n ≤ x) = true then some true else if decide (0 < (i : Int)) = true then (idx l (IntKind.i64.wrap ((i : Int) - 1))).bind fun y => some (decide (x ≤ y)) else some false) = some (!decide (AscAt l n i)) := by
  have hi := (List.getElem?_eq_some_iff.1 hx).1
  by_cases h1 : x < 0
  · rw [if_pos (decide_eq_true h1), decide_eq_false (fun h : AscAt l n i => by have := (h x hx).1; omega)]; rfl
  · rw [if_neg (by simpa using h1)]
    by_cases h2 : n ≤ x
    · rw [if_pos (decide_eq_true h2), decide_eq_false (fun h : AscAt l n i => by have := (h x hx).2.1; omega)]; rfl
    · rw [if_neg (by simpa using h2)]
      by_cases h3 : 0 < i
      · rw [if_pos (by simpa using h3), wrap_id (by omega) (by omega)]
        obtain ⟨y, hy⟩ := get_len (xs := l) (i := i - 1) (by omega)
        have e : (i : Int) - 1 = ((i - 1 : Nat) : Int) := by omega
        rw [e, idx_nat, hy]
        simp only [Option.bind_some]
        congr 1
        by_cases h4 : x ≤ y
        · rw [decide_eq_true h4, decide_eq_false (fun h : AscAt l n i => by have := (h x hx).2.2 y h3 hy; omega)]; rfl
        · rw [decide_eq_false h4, decide_eq_true (show AscAt l n i from fun x' hx' => by
            rw [hx] at hx'; cases hx'
            exact ⟨by omega, by omega, fun y' _ hy' => by rw [hy] at hy'; cases hy'; omega⟩)]
          rfl
      · rw [if_neg (by simpa using h3), decide_eq_true (show AscAt l n i from fun x' hx' => by
            rw [hx] at hx'; cases hx'
            exact ⟨by omega, by omega, fun y' h _ => absurd h h3⟩)]
        rfl
open Classical in
theorem indices_ok (l : List Int) (n : Int) (hl : l.length ≤ 9223372036854775807) : ground_indices_p l n = some (decide (Asc l n)) := by
  unfold ground_indices_p
  rw [ctl_all (r := false) (p := fun i => decide (AscAt l n i))]
  · rw [asc_all]
    by_cases h : Asc l n <;> simp [h]
  · intro j hj
    obtain ⟨x, hx⟩ := get_len hj
    simp only [idx_nat, hx, Option.bind_some]
    rw [asc_body hl hx]
    by_cases h : AscAt l n j <;> simp [h]
inductive WFE : GExpr → Prop
  | mk {op : ByteArray} {N : Int} {kids : List GExpr} : kids.length ≤ 9223372036854775807 → (∀ k ∈ kids, WFE k) → WFE ⟨op, N, kids⟩
structure LenC (c : Cond) : Prop where
  p : c.Pos.length ≤ 9223372036854775807
  n : c.Neg.length ≤ 9223372036854775807
  t : c.Tests.length ≤ 9223372036854775807
  e : ∀ t ∈ c.Tests, WFE t.A ∧ WFE t.B
structure LenO (o : GOp) : Prop where
  nm : o.Name.size ≤ 9223372036854775807
  pre : LenC o.Pre
  ch : o.Changes.length ≤ 9223372036854775807
  whn : ∀ c ∈ o.Changes, LenC c.When
  asg : o.Assigns.length ≤ 9223372036854775807
  val : ∀ a ∈ o.Assigns, WFE a.Value
structure LenG (g : Ground) : Prop where
  a : g.Atoms.length ≤ 9223372036854775807
  f : g.Fluents.length ≤ 9223372036854775807
  i : g.Init.length ≤ 9223372036854775807
  gl : g.Goal.length ≤ 9223372036854775807
  o : g.Ops.length ≤ 9223372036854775807
  goal : ∀ c ∈ g.Goal, LenC c
  op : ∀ o ∈ g.Ops, LenO o
theorem test_size {c : Cond} {t : GTest} (h : t ∈ c.Tests) : SizeOf.sizeOf t.A < SizeOf.sizeOf c ∧ SizeOf.sizeOf t.B < SizeOf.sizeOf c := by
  have h1 := List.sizeOf_lt_of_mem h
  obtain ⟨p, n, ts⟩ := c
  obtain ⟨o, a, b⟩ := t
  simp only [Cond.mk.sizeOf_spec, GTest.mk.sizeOf_spec] at *
  omega
theorem pre_size (o : GOp) : SizeOf.sizeOf o.Pre < SizeOf.sizeOf o := by
  cases o
  simp only [GOp.mk.sizeOf_spec]
  omega
theorem when_size {o : GOp} {c : GChange} (h : c ∈ o.Changes) : SizeOf.sizeOf c.When < SizeOf.sizeOf o := by
  have h1 := List.sizeOf_lt_of_mem h
  obtain ⟨nm, k, p, cs, asg⟩ := o
  obtain ⟨w, a, b⟩ := c
  simp only [GOp.mk.sizeOf_spec, GChange.mk.sizeOf_spec] at *
  omega
theorem value_size {o : GOp} {a : GAssign} (h : a ∈ o.Assigns) : SizeOf.sizeOf a.Value < SizeOf.sizeOf o := by
  have h1 := List.sizeOf_lt_of_mem h
  obtain ⟨nm, k, p, cs, asg⟩ := o
  obtain ⟨f, v⟩ := a
  simp only [GOp.mk.sizeOf_spec, GAssign.mk.sizeOf_spec] at *
  omega
theorem goal_size {g : Ground} {c : Cond} (h : c ∈ g.Goal) : SizeOf.sizeOf c < SizeOf.sizeOf g := by
  have h1 := List.sizeOf_lt_of_mem h
  obtain ⟨a, f, i, gl, o⟩ := g
  simp only [Ground.mk.sizeOf_spec] at *
  omega
theorem op_size {g : Ground} {o : GOp} (h : o ∈ g.Ops) : SizeOf.sizeOf o < SizeOf.sizeOf g := by
  have h1 := List.sizeOf_lt_of_mem h
  obtain ⟨a, f, i, gl, os⟩ := g
  simp only [Ground.mk.sizeOf_spec] at *
  omega
abbrev sLt1 : ByteArray := ⟨#[60]⟩
abbrev sLe1 : ByteArray := ⟨#[60, 61]⟩
abbrev sEq1 : ByteArray := ⟨#[61]⟩
def TestOK (n : Int) (t : GTest) : Prop := (t.Op = sLt1 ∨ t.Op = sLe1 ∨ t.Op = sEq1) ∧ RE n t.A ∧ RE n t.B
structure CondOK (na nf : Int) (c : Cond) : Prop where
  p : Asc c.Pos na
  n : Asc c.Neg na
  t : ∀ t ∈ c.Tests, TestOK nf t
open Classical in
theorem test_body {R : GExpr → Option Bool} {n : Int} {t : GTest} (hA : R t.A = some (decide (RE n t.A))) (hB : R t.B = some (decide (RE n t.B))) :
    (if (!decide (t.Op = sLt1)) = true then (if (!decide (t.Op = sLe1)) = true then (if (!decide (t.Op = sEq1)) = true then some true
      else ((R t.A).bind fun y => if (!y) = true then some true else ((R t.B).bind fun z => some (!z))))
      else ((R t.A).bind fun y => if (!y) = true then some true else ((R t.B).bind fun z => some (!z))))
      else ((R t.A).bind fun y => if (!y) = true then some true else ((R t.B).bind fun z => some (!z)))) = some (!decide (TestOK n t)) := by
  have hR : ((R t.A).bind fun y => if (!y) = true then some true else ((R t.B).bind fun z => some (!z))) = some (!decide (RE n t.A ∧ RE n t.B)) := by
    rw [hA, hB]
    by_cases a : RE n t.A <;> by_cases b : RE n t.B <;> simp [a, b]
  rw [hR]
  unfold TestOK
  by_cases h1 : t.Op = sLt1
  · simp [h1]
  · by_cases h2 : t.Op = sLe1
    · simp [h2]
    · by_cases h3 : t.Op = sEq1
      · simp [h3]
      · simp [h1, h2, h3]
theorem all_mem {α : Type} {xs : List α} {p : α → Bool} {q : Nat → Bool} (h : ∀ i x, xs[i]? = some x → q i = p x) : (List.range xs.length).all q = xs.all p := by
  rw [Bool.eq_iff_iff, List.all_eq_true, List.all_eq_true]
  constructor
  · intro hq x hx
    obtain ⟨i, hi, rfl⟩ := List.getElem_of_mem hx
    rw [← h i _ (List.getElem?_eq_getElem hi)]
    exact hq i (List.mem_range.2 hi)
  · intro hp i hi
    have hi := List.mem_range.1 hi
    rw [h i _ (List.getElem?_eq_getElem hi)]
    exact hp _ (List.getElem_mem hi)
open Classical in
theorem ctl_forP {α R β : Type} {xs : List α} {B : Nat → Unit → Option (Ctl Unit R)} {r : R} {kr : R → Option β} {k : Unit → Option β} (p : α → Prop) (h : ∀ i x, xs[i]? = some x → B i () = some (if decide (p x) then .next () else .ret r)) :
    ctl (forC B xs.length 0 ()) kr k = if (∀ x ∈ xs, p x) then k () else kr r := by
  rw [ctl_all (r := r) (p := fun i => match xs[i]? with | some x => decide (p x) | none => true)]
  · rw [all_mem (p := fun x => decide (p x)) (fun i x hx => by simp only [hx])]
    by_cases hall : ∀ x ∈ xs, p x
    · rw [if_pos hall, if_pos (by rw [List.all_eq_true]; exact fun x hx => decide_eq_true (hall x hx))]
    · rw [if_neg hall, if_neg (by rw [List.all_eq_true]; exact fun hh => hall fun x hx => of_decide_eq_true (hh x hx))]
  · intro j hj
    obtain ⟨x, hx⟩ := get_len hj
    rw [h j x hx]
    simp only [hx]
section
variable {fu : Nat} {g : Ground} {c : Cond}
open Classical in
theorem cond_ok (hl : LenC c) (hs : SizeOf.sizeOf c ≤ fu) : ground_condition_p fu g c = some (decide (CondOK (g.Atoms.length : Int) (g.Fluents.length : Int) c)) := by
  unfold ground_condition_p
  rw [ctl_forP (r := false) (fun t => TestOK (g.Fluents.length : Int) t)]
  · rw [indices_ok _ _ hl.p, indices_ok _ _ hl.n]
    by_cases h : ∀ t ∈ c.Tests, TestOK (g.Fluents.length : Int) t
    · rw [if_pos h]
      by_cases hp : Asc c.Pos (g.Atoms.length : Int)
      · by_cases hn : Asc c.Neg (g.Atoms.length : Int)
        · rw [decide_eq_true (CondOK.mk hp hn h)]; simp [hp, hn]
        · rw [decide_eq_false (fun q : CondOK _ _ c => hn q.n)]; simp [hp, hn]
      · rw [decide_eq_false (fun q : CondOK _ _ c => hp q.p)]; simp [hp]
    · rw [if_neg h, decide_eq_false (fun q : CondOK _ _ c => h q.t)]
  · intro i t ht
    have hm := List.mem_of_getElem? ht
    have hz := test_size hm
    simp only [idx_nat, ht, Option.bind_some]
    rw [test_body (R := fun e => ground_right_p fu e (g.Fluents.length : Int)) (right_ok fu _ _ (by omega)) (right_ok fu _ _ (by omega))]
    by_cases q : TestOK (g.Fluents.length : Int) t <;> simp [q]
end
def ChrOK (x : Int) : Prop := 32 ≤ x ∧ x ≤ 126
def FluOK (f : GFluent) : Prop := -1099511627776 ≤ f.Lo ∧ f.Lo ≤ f.Init ∧ f.Init ≤ f.Hi ∧ f.Hi ≤ 1099511627776 ∧ f.Hi - f.Lo < 64
structure ChgOK (na nf : Int) (c : GChange) : Prop where
  r0 : 0 ≤ c.Atom
  r1 : c.Atom < na
  w : CondOK na nf c.When
/-- The j-th assignment is right, and none before it is of its fluent. -/
def AssAt (nf : Int) (l : List GAssign) (j : Nat) : Prop := ∀ a, l[j]? = some a → 0 ≤ a.Fluent ∧ a.Fluent < nf ∧ (∀ k b, k < j → l[k]? = some b → b.Fluent ≠ a.Fluent) ∧ RE nf a.Value
structure GOpOK (na nf : Int) (o : GOp) : Prop where
  c0 : 0 ≤ o.Cost
  c1 : o.Cost ≤ 1048576
  nm : o.Name.size ≤ 256
  ch : ∀ x ∈ bytesOf o.Name, ChrOK x
  nc : o.Changes.length ≤ 256
  pre : CondOK na nf o.Pre
  chg : ∀ c ∈ o.Changes, ChgOK na nf c
  asg : ∀ j, AssAt nf o.Assigns j
structure ValidG (g : Ground) : Prop where
  a : g.Atoms.length ≤ 4096
  f : g.Fluents.length ≤ 4096
  o : g.Ops.length ≤ 4096
  gl : g.Goal.length ≤ 64
  i : Asc g.Init (g.Atoms.length : Int)
  flu : ∀ f ∈ g.Fluents, FluOK f
  goal : ∀ c ∈ g.Goal, CondOK (g.Atoms.length : Int) (g.Fluents.length : Int) c
  op : ∀ o ∈ g.Ops, GOpOK (g.Atoms.length : Int) (g.Fluents.length : Int) o
open Classical in
theorem named_ok (s : ByteArray) (hl : s.size ≤ 9223372036854775807) : ground_named_p s = some (decide ((∀ x ∈ bytesOf s, ChrOK x) ∧ s.size ≤ 256)) := by
  unfold ground_named_p
  have hb := bytesOf_length s
  rw [show must (decide ((s.size : Int) ≤ 9223372036854775807)) = some () by simp [must]; omega]
  simp only [Option.bind_some]
  rw [show ((s.size : Int)).toNat = (bytesOf s).length by rw [hb]; simp]
  rw [ctl_forP (r := false) ChrOK]
  · by_cases h : ∀ x ∈ bytesOf s, ChrOK x
    · rw [if_pos h]
      congr 1
      exact decide_eq_decide.2 ⟨fun q => ⟨h, by omega⟩, fun q => by have := q.2; omega⟩
    · rw [if_neg h, decide_eq_false fun q => h q.1]
  · intro i x hx
    simp only [idx_nat, hx, Option.bind_some]
    by_cases h1 : x < 32
    · rw [if_pos (decide_eq_true h1), decide_eq_false (fun q : ChrOK x => by have := q.1; omega)]; rfl
    · rw [if_neg (by simpa using h1)]
      by_cases h2 : 126 < x
      · rw [decide_eq_true h2, decide_eq_false (fun q : ChrOK x => by have := q.2; omega)]; rfl
      · rw [decide_eq_false h2, decide_eq_true (show ChrOK x from ⟨by omega, by omega⟩)]; rfl
section
variable {fu : Nat} {g : Ground}
open Classical in
theorem chg_body {R : Cond → Option Bool} {na nf : Int} {c : GChange} (hR : R c.When = some (decide (CondOK na nf c.When))) :
    (if decide (c.Atom < 0) = true then some true else (if decide (na ≤ c.Atom) = true then some true else ((R c.When).bind fun y => some (!y)))) = some (!decide (ChgOK na nf c)) := by
  by_cases h1 : c.Atom < 0
  · rw [if_pos (decide_eq_true h1), decide_eq_false (fun q : ChgOK na nf c => by have := q.r0; omega)]; rfl
  · rw [if_neg (by simpa using h1)]
    by_cases h2 : na ≤ c.Atom
    · rw [if_pos (decide_eq_true h2), decide_eq_false (fun q : ChgOK na nf c => by have := q.r1; omega)]; rfl
    · rw [if_neg (by simpa using h2), hR]
      simp only [Option.bind_some]
      congr 2
      exact decide_eq_decide.2 ⟨fun q => ⟨by omega, by omega, q⟩, fun q => q.w⟩
open Classical in
theorem assigns_g {nf : Int} {l : List GAssign} (hn : nf ≤ 9223372036854775806) (hl : l.length ≤ 9223372036854775807) (hs : ∀ a ∈ l, SizeOf.sizeOf a.Value < fu) :
    ctl (forC (R := (Bool)) (fun i101 => fun (l100 : BMap) => (idx l (i101 : Int)).bind fun x101 =>
      (if decide (x101.Fluent < 0) then (some true)
      else (if decide (nf ≤ x101.Fluent) then (some true)
      else ((bmapGet l100 x101.Fluent).bind fun q100 =>
      if q100 then (some true)
      else ((ground_right_p fu x101.Value nf).bind <| fun (y103 : Bool) =>
      some (!y103))))).bind (fun (z102 : Bool) => if z102 then (some (Ctl.ret false))
      else ((bmapPut l100 x101.Fluent true).bind fun m100 =>
      some (Ctl.next m100)))) (l.length) 0 ([] : BMap)) (fun r => some r) (fun (l101 : BMap) => some true) = some (decide (∀ j, AssAt nf l j)) := by
  refine Ok.eq (Ok.ctl (fun j (m : BMap) => m.length ≤ j ∧ (∀ k, k < j → AssAt nf l k) ∧ ∀ f : Int, (bget m f = some true ↔ ∃ k b, k < j ∧ l[k]? = some b ∧ b.Fluent = f) ∧ (bget m f).getD false = (bget m f).isSome) (fun r => r = false ∧ ∃ j, ¬ AssAt nf l j) ⟨by simp, fun k hk => absurd hk (Nat.not_lt_zero k), fun f => ⟨⟨fun h => by simp [bget] at h, fun ⟨k, b, hk, _⟩ => absurd hk (Nat.not_lt_zero k)⟩, rfl⟩⟩ ?_ ?_ ?_)
  · rintro j m hj ⟨h1, h2, h3⟩
    obtain ⟨a, ha⟩ := get_len hj
    have ham := List.mem_of_getElem? ha
    simp only [idx_nat, ha, Option.bind_some]
    have bad : ¬ AssAt nf l j → Ok (some (Ctl.ret (S := BMap) false)) (CtlP (fun (m : BMap) => m.length ≤ j + 1 ∧ (∀ k, k < j + 1 → AssAt nf l k) ∧ ∀ f : Int, (bget m f = some true ↔ ∃ k b, k < j + 1 ∧ l[k]? = some b ∧ b.Fluent = f) ∧ (bget m f).getD false = (bget m f).isSome) (fun r => r = false ∧ ∃ j, ¬ AssAt nf l j)) := fun h => Ok.ret ⟨rfl, j, h⟩
    by_cases b1 : a.Fluent < 0
    · rw [if_pos (decide_eq_true b1)]
      exact bad fun q => by have := (q a ha).1; omega
    rw [if_neg (by simpa using b1)]
    by_cases b2 : nf ≤ a.Fluent
    · rw [if_pos (decide_eq_true b2)]
      exact bad fun q => by have := (q a ha).2.1; omega
    rw [if_neg (by simpa using b2)]
    have hok : i64ok a.Fluent := ⟨by omega, by omega⟩
    have hget : bmapGet m a.Fluent = some ((bget m a.Fluent).getD false) := by unfold bmapGet; rw [if_pos hok]
    rw [hget]
    simp only [Option.bind_some]
    by_cases b3 : bget m a.Fluent = some true
    · rw [b3]
      simp only [Option.getD_some, if_true, Option.bind_some]
      obtain ⟨k, b, hk, hb, hf⟩ := (h3 a.Fluent).1.1 b3
      exact bad fun q => (q a ha).2.2.1 k b hk hb hf
    have b3' : (bget m a.Fluent).getD false = false := by
      cases hq : bget m a.Fluent with
      | none => rfl
      | some v =>
        cases v with
        | false => rfl
        | true => exact absurd hq b3
    rw [b3']
    simp only [Bool.false_eq_true, if_false, right_ok fu a.Value nf (hs a ham), Option.bind_some]
    by_cases b4 : RE nf a.Value
    rotate_left
    · simp only [b4, decide_false, Bool.not_false, if_true]
      exact bad fun q => b4 (q a ha).2.2.2
    simp only [b4, decide_true, Bool.not_true, Bool.false_eq_true, if_false]
    have hput : bmapPut m a.Fluent true = some (bput m a.Fluent true) := by
      unfold bmapPut
      rw [if_pos ⟨hok, by show m.length < 9223372036854775807; omega⟩]
    rw [hput]
    simp only [Option.bind_some]
    refine Ok.ret ⟨?_, fun k hk => ?_, fun f => ⟨?_, ?_⟩⟩
    · rw [bput_length]; split <;> omega
    · by_cases e : k = j
      · subst e
        intro a' ha'
        rw [ha] at ha'; cases ha'
        exact ⟨by omega, by omega, fun k b hk hb hf => b3 ((h3 a.Fluent).1.2 ⟨k, b, hk, hb, hf⟩), b4⟩
      · exact h2 k (by omega)
    · rw [bget_put]
      by_cases e : a.Fluent = f
      · rw [if_pos e]
        exact ⟨fun _ => ⟨j, a, by omega, ha, e⟩, fun _ => rfl⟩
      · rw [if_neg e, (h3 f).1]
        constructor
        · rintro ⟨k, b, hk, hb, hf⟩; exact ⟨k, b, by omega, hb, hf⟩
        · rintro ⟨k, b, hk, hb, hf⟩
          refine ⟨k, b, ?_, hb, hf⟩
          by_cases e2 : k = j
          · subst e2; rw [ha] at hb; cases hb; exact absurd hf e
          · omega
    · rw [bget_put]
      by_cases e : a.Fluent = f
      · rw [if_pos e]; rfl
      · rw [if_neg e]; exact (h3 f).2
  · rintro r ⟨rfl, j, hj⟩
    refine Ok.ret ?_
    rw [decide_eq_false fun q => hj (q j)]
  · rintro m ⟨_, h2, _⟩
    refine Ok.ret ?_
    rw [decide_eq_true]
    intro j a ha
    exact h2 j (List.getElem?_eq_some_iff.1 ha).1 a ha
open Classical in
theorem op_ok {o : GOp} (hf : g.Fluents.length ≤ 9223372036854775806) (hl : LenO o) (hs : SizeOf.sizeOf o ≤ fu) : ground_operator_p fu g o = some (decide (GOpOK (g.Atoms.length : Int) (g.Fluents.length : Int) o)) := by
  have hpre := pre_size o
  unfold ground_operator_p
  rw [named_ok _ hl.nm, cond_ok hl.pre (by omega)]
  have no : ∀ {q : Prop}, (GOpOK (g.Atoms.length : Int) (g.Fluents.length : Int) o → False) → some false = some (decide (GOpOK (g.Atoms.length : Int) (g.Fluents.length : Int) o)) := fun h => by rw [decide_eq_false h]
  by_cases c1 : 256 < (o.Changes.length : Int)
  · rw [if_pos (decide_eq_true c1)]; exact no (q := True) fun h => by have := h.nc; omega
  rw [if_neg (by simpa using c1)]
  by_cases c2 : o.Cost < 0
  · rw [if_pos (decide_eq_true c2)]; exact no (q := True) fun h => by have := h.c0; omega
  rw [if_neg (by simpa using c2)]
  by_cases c3 : 1048576 < o.Cost
  · rw [if_pos (decide_eq_true c3)]; exact no (q := True) fun h => by have := h.c1; omega
  rw [if_neg (by simpa using c3)]
  simp only [Option.bind_some]
  by_cases c4 : (∀ x ∈ bytesOf o.Name, ChrOK x) ∧ o.Name.size ≤ 256
  rotate_left
  · rw [decide_eq_false c4]; exact no (q := True) fun h => c4 ⟨h.ch, h.nm⟩
  rw [decide_eq_true c4]
  by_cases c5 : CondOK (g.Atoms.length : Int) (g.Fluents.length : Int) o.Pre
  rotate_left
  · rw [decide_eq_false c5]; exact no (q := True) fun h => c5 h.pre
  rw [decide_eq_true c5]
  simp only [Bool.not_true, Bool.false_eq_true, if_false, Option.bind_some]
  rw [ctl_forP (r := false) (ChgOK (g.Atoms.length : Int) (g.Fluents.length : Int))]
  · rw [assigns_g (by omega) hl.asg fun a ha => by have := value_size ha; omega]
    by_cases c6 : ∀ c ∈ o.Changes, ChgOK (g.Atoms.length : Int) (g.Fluents.length : Int) c
    · rw [if_pos c6]
      congr 1
      exact decide_eq_decide.2 ⟨fun h => ⟨by omega, by omega, c4.2, c4.1, by omega, c5, c6, h⟩, fun h => h.asg⟩
    · rw [if_neg c6]; exact no (q := True) fun h => c6 h.chg
  · intro i c hc
    have hm := List.mem_of_getElem? hc
    have hw := when_size hm
    simp only [idx_nat, hc, Option.bind_some]
    rw [chg_body (R := fun w => ground_condition_p fu g w) (cond_ok (hl.whn c hm) (by omega))]
    by_cases q : ChgOK (g.Atoms.length : Int) (g.Fluents.length : Int) c <;> simp [q]
open Classical in
theorem flu_dec (f : GFluent) : ground_fluent_t f = decide (FluOK f) := by
  have h := ground_fluent_tot f
  unfold ground_fluent_p at h
  rw [← Zu h]
  by_cases q : FluOK f
  · obtain ⟨a, b, c, d, e⟩ := q
    rw [decide_eq_true (show FluOK f from ⟨a, b, c, d, e⟩), wrap_id (by omega) (by omega)]
    simp [a, b, c, d, e]
  · rw [decide_eq_false q, Bool.eq_false_iff]
    intro hh
    simp only [Bool.and_eq_true, decide_eq_true_eq] at hh
    obtain ⟨a, b, c, d, e⟩ := hh
    rw [wrap_id (by omega) (by omega)] at e
    exact q ⟨a, b, c, d, e⟩
/-- The first place of a row that a test takes. -/
theorem find_ok {α : Type} {xs : List α} {B : Nat → Unit → Option (Ctl Unit Int)} {f : α → Bool} (h : ∀ i x, xs[i]? = some x → B i () = some (if f x then .ret (i : Int) else .next ())) :
    ∃ n : Int, ctl (forC B xs.length 0 ()) (fun r => some r) (fun (_ : Unit) => some (-1)) = some n ∧ (0 ≤ n ↔ ∃ x ∈ xs, f x = true) := by
  have : Ok (Go.Pw.ctl (forC B xs.length 0 ()) (fun r => some r) (fun (_ : Unit) => some (-1))) fun n => 0 ≤ n ↔ ∃ x ∈ xs, f x = true := by
    refine Ok.ctl (fun j _ => ∀ (i : Nat) x, i < j → xs[i]? = some x → f x = false) (fun r => 0 ≤ r ∧ ∃ x ∈ xs, f x = true) (fun i x hi => absurd hi (Nat.not_lt_zero i)) ?_ ?_ ?_
    · intro j _ hj hI
      obtain ⟨x, hx⟩ := get_len hj
      rw [h j x hx]
      cases hf : f x with
      | true => exact Ok.ret ⟨by omega, x, List.mem_of_getElem? hx, hf⟩
      | false =>
        refine Ok.ret fun i y hi hy => ?_
        by_cases e : i = j
        · subst e; rw [hx] at hy; cases hy; exact hf
        · exact hI i y (by omega) hy
    · rintro r ⟨h0, hx⟩
      exact Ok.ret ⟨fun _ => hx, fun _ => h0⟩
    · rintro _ hI
      refine Ok.ret ⟨fun h => by omega, ?_⟩
      rintro ⟨x, hx, hf⟩
      obtain ⟨i, hi, rfl⟩ := List.getElem_of_mem hx
      have := hI i _ hi (List.getElem?_eq_getElem hi)
      rw [this] at hf; cases hf
  exact this
open Classical in
theorem valid_ok (hl : LenG g) (hs : SizeOf.sizeOf g ≤ fu) : ground_Valid_p fu g = some (decide (ValidG g)) := by
  unfold ground_Valid_p
  by_cases h1 : g.Atoms.length ≤ 4096 ∧ g.Fluents.length ≤ 4096 ∧ g.Ops.length ≤ 4096 ∧ g.Goal.length ≤ 64
  rotate_left
  · rw [decide_eq_false (fun h : ValidG g => h1 ⟨h.a, h.f, h.o, h.gl⟩), if_pos]
    simp only [Bool.or_eq_true, decide_eq_true_eq]
    omega
  obtain ⟨a1, a2, a3, a4⟩ := h1
  rw [if_neg (by simp only [Bool.or_eq_true, decide_eq_true_eq]; omega)]
  -- fluents
  obtain ⟨n1, e1, k1⟩ := find_ok (xs := g.Fluents) (B := fun i300 => fun (_ : Unit) => (idx g.Fluents (i300 : Int)).bind fun x393 => if (ground_Valid_c1_t x393) then (some (Ctl.ret (i300 : Int))) else (some (Ctl.next ()))) (f := fun f => !decide (FluOK f)) (by
    intro i x hx
    simp only [idx_nat, hx, Option.bind_some]
    have := ground_Valid_c1_tot x
    unfold ground_Valid_c1_p at this
    rw [← Zu this, flu_dec]
    by_cases q : FluOK x <;> simp [q])
  have f1 : slices_ContainsFunc_apiGFluent_Valid_c1_p g.Fluents = some (decide (0 ≤ n1)) := by
    unfold slices_ContainsFunc_apiGFluent_Valid_c1_p slices_IndexFunc_apiGFluent_Valid_c1_p
    rw [e1]; rfl
  -- the goal
  obtain ⟨n2, e2, k2⟩ := find_ok (xs := g.Goal) (B := fun i100 => fun (_ : Unit) => (idx g.Goal (i100 : Int)).bind fun x100 => (ground_Valid_c2_p fu x100 g).bind <| fun (y100 : Bool) => if y100 then (some (Ctl.ret (i100 : Int))) else (some (Ctl.next ()))) (f := fun c => !decide (CondOK (g.Atoms.length : Int) (g.Fluents.length : Int) c)) (by
    intro i x hx
    have hm := List.mem_of_getElem? hx
    have hz := goal_size hm
    simp only [idx_nat, hx, Option.bind_some]
    unfold ground_Valid_c2_p
    rw [cond_ok (hl.goal x hm) (by omega)]
    by_cases q : CondOK (g.Atoms.length : Int) (g.Fluents.length : Int) x <;> simp [q])
  have f2 : slices_ContainsFunc_apiCond_Valid_c2_p fu g.Goal g = some (decide (0 ≤ n2)) := by
    unfold slices_ContainsFunc_apiCond_Valid_c2_p slices_IndexFunc_apiCond_Valid_c2_p
    rw [e2]; rfl
  -- the operators
  obtain ⟨n3, e3, k3⟩ := find_ok (xs := g.Ops) (B := fun i100 => fun (_ : Unit) => (idx g.Ops (i100 : Int)).bind fun x100 => (ground_Valid_c3_p fu x100 g).bind <| fun (y100 : Bool) => if y100 then (some (Ctl.ret (i100 : Int))) else (some (Ctl.next ()))) (f := fun o => !decide (GOpOK (g.Atoms.length : Int) (g.Fluents.length : Int) o)) (by
    intro i x hx
    have hm := List.mem_of_getElem? hx
    have hz := op_size hm
    simp only [idx_nat, hx, Option.bind_some]
    unfold ground_Valid_c3_p
    rw [op_ok (by omega) (hl.op x hm) (by omega)]
    by_cases q : GOpOK (g.Atoms.length : Int) (g.Fluents.length : Int) x <;> simp [q])
  have f3 : slices_ContainsFunc_apiGOp_Valid_c3_p fu g.Ops g = some (decide (0 ≤ n3)) := by
    unfold slices_ContainsFunc_apiGOp_Valid_c3_p slices_IndexFunc_apiGOp_Valid_c3_p
    rw [e3]; rfl
  rw [f1, f2, f3, indices_ok _ _ hl.i]
  simp only [Option.bind_some]
  have c1 : 0 ≤ n1 ↔ ¬ ∀ f ∈ g.Fluents, FluOK f := by rw [k1]; simp
  have c2 : 0 ≤ n2 ↔ ¬ ∀ c ∈ g.Goal, CondOK (g.Atoms.length : Int) (g.Fluents.length : Int) c := by rw [k2]; simp
  have c3 : 0 ≤ n3 ↔ ¬ ∀ o ∈ g.Ops, GOpOK (g.Atoms.length : Int) (g.Fluents.length : Int) o := by rw [k3]; simp
  by_cases b1 : 0 ≤ n1
  · rw [decide_eq_false (fun h : ValidG g => c1.1 b1 h.flu)]; simp [b1]
  by_cases b0 : Asc g.Init (g.Atoms.length : Int)
  rotate_left
  · rw [decide_eq_false (fun h : ValidG g => b0 h.i)]; simp [b1, b0]
  by_cases b2 : 0 ≤ n2
  · rw [decide_eq_false (fun h : ValidG g => c2.1 b2 h.goal)]; simp [b1, b0, b2]
  by_cases b3 : 0 ≤ n3
  · rw [decide_eq_false (fun h : ValidG g => c3.1 b3 h.op)]; simp [b1, b0, b2, b3]
  rw [decide_eq_true (show ValidG g from ⟨a1, a2, a3, a4, b0, Classical.byContradiction fun h => b1 (c1.2 h), Classical.byContradiction fun h => b2 (c2.2 h), Classical.byContradiction fun h => b3 (c3.2 h)⟩)]
  simp [b1, b0, b2, b3]
end
end Go.Pw
/-
  The example of chapter 20 is awake, in plain Lean (printed by iva.py; Valid by fuel, no dead conditions, maps of lists).
-/
set_option maxHeartbeats 8000000
set_option maxRecDepth 100000
namespace Go.Pw
section
variable {α β S R : Type}
theorem at_eq {x : Option α} {f : α → Option β} (a : α) (h : x = some a) {r : Option β} (k : f a = r) : x.bind f = r := by rw [h]; exact k
theorem forS_s {B : Nat → S → Option S} {n i : Nat} {s : S} {r : Option S} (s1 : S) (h0 : B i s = some s1) (h : forS B n (i + 1) s1 = r) : forS B (n + 1) i s = r := by simp only [forS, h0, Option.bind_some]; exact h
theorem forC_s {B : Nat → S → Option (Ctl S R)} {n i : Nat} {s : S} {r : Option (Ctl S R)} (s1 : S) (h0 : B i s = some (.next s1)) (h : forC B n (i + 1) s1 = r) : forC B (n + 1) i s = r := by simp only [forC, h0]; exact h
theorem forC_r {B : Nat → S → Option (Ctl S R)} {n i : Nat} {s : S} (q : R) (h0 : B i s = some (.ret q)) : forC B (n + 1) i s = some (.ret q) := by simp only [forC, h0]
theorem ctlN {x : Option (Ctl S R)} {kr : R → Option β} {k : S → Option β} (s : S) (h : x = some (.next s)) {r : Option β} (e : k s = r) : ctl x kr k = r := by rw [h]; exact e
theorem ctlR {x : Option (Ctl S R)} {kr : R → Option β} {k : S → Option β} (q : R) (h : x = some (.ret q)) {r : Option β} (e : kr q = r) : ctl x kr k = r := by rw [h]; exact e
theorem ctlW {B : S → Option (Ctl S R)} {s : S} {kr : R → Option β} {k : S → Option β} (n : Nat) (c : Ctl S R) (h : iterC B n s = some c) {r : Option β} (e : ctl (some c) kr k = r) : ctl (whileC B s) kr k = r := by
  rw [whileC_of h]; exact e
end
def xop0 : GOp := ⟨⟨#[40, 109, 111, 118, 101, 41]⟩, 0, ⟨[0], [], []⟩, [⟨⟨[], [], []⟩, 0, false⟩, ⟨⟨[], [], []⟩, 1, true⟩], []⟩
def xop1 : GOp := ⟨⟨#[40, 109, 111, 118, 101, 41]⟩, 0, ⟨[1], [], []⟩, [⟨⟨[], [], []⟩, 1, false⟩, ⟨⟨[], [], []⟩, 0, true⟩], []⟩
def xop2 : GOp := ⟨⟨#[40, 109, 111, 118, 101, 41]⟩, 0, ⟨[2], [], []⟩, [⟨⟨[], [], []⟩, 2, false⟩, ⟨⟨[], [], []⟩, 3, true⟩], []⟩
def xop3 : GOp := ⟨⟨#[40, 109, 111, 118, 101, 41]⟩, 0, ⟨[3], [], []⟩, [⟨⟨[], [], []⟩, 3, false⟩, ⟨⟨[], [], []⟩, 2, true⟩], []⟩
def exam : Ground := ⟨[⟨⟨#[97, 116]⟩, [⟨#[97]⟩, ⟨#[112]⟩]⟩, ⟨⟨#[97, 116]⟩, [⟨#[97]⟩, ⟨#[113]⟩]⟩, ⟨⟨#[97, 116]⟩, [⟨#[98]⟩, ⟨#[112]⟩]⟩, ⟨⟨#[97, 116]⟩, [⟨#[98]⟩, ⟨#[113]⟩]⟩], [], [0, 2], [⟨[1], [], []⟩], [xop0, xop1, xop2, xop3]⟩
theorem example_ok : law20_example_p = some exam := by with_unfolding_all rfl
theorem validE_ok (fu : Nat) : ground_Valid_p fu exam = some true := by with_unfolding_all rfl
def so1 : List invariant_simple := [⟨[0], ⟨#[97, 116]⟩, ⟨#[34, 97, 34, 32, 34, 112, 34, 32]⟩, false⟩, ⟨[0], ⟨#[97, 116]⟩, ⟨#[34, 112, 34, 32]⟩, true⟩, ⟨[0], ⟨#[97, 116]⟩, ⟨#[34, 97, 34, 32]⟩, true⟩]
def sm1 : SMap := [(⟨#[45, 49, 32, 50, 32, 34, 97, 116, 34, 32, 34, 97, 34, 32, 34, 112, 34, 32]⟩, 0), (⟨#[48, 32, 50, 32, 34, 97, 116, 34, 32, 34, 112, 34, 32]⟩, 1), (⟨#[49, 32, 50, 32, 34, 97, 116, 34, 32, 34, 97, 34, 32]⟩, 2)]
def so2 : List invariant_simple := [⟨[0], ⟨#[97, 116]⟩, ⟨#[34, 97, 34, 32, 34, 112, 34, 32]⟩, false⟩, ⟨[0], ⟨#[97, 116]⟩, ⟨#[34, 112, 34, 32]⟩, true⟩, ⟨[0, 1], ⟨#[97, 116]⟩, ⟨#[34, 97, 34, 32]⟩, true⟩, ⟨[1], ⟨#[97, 116]⟩, ⟨#[34, 97, 34, 32, 34, 113, 34, 32]⟩, false⟩, ⟨[1], ⟨#[97, 116]⟩, ⟨#[34, 113, 34, 32]⟩, true⟩]
def sm2 : SMap := [(⟨#[45, 49, 32, 50, 32, 34, 97, 116, 34, 32, 34, 97, 34, 32, 34, 112, 34, 32]⟩, 0), (⟨#[48, 32, 50, 32, 34, 97, 116, 34, 32, 34, 112, 34, 32]⟩, 1), (⟨#[49, 32, 50, 32, 34, 97, 116, 34, 32, 34, 97, 34, 32]⟩, 2), (⟨#[45, 49, 32, 50, 32, 34, 97, 116, 34, 32, 34, 97, 34, 32, 34, 113, 34, 32]⟩, 3), (⟨#[48, 32, 50, 32, 34, 97, 116, 34, 32, 34, 113, 34, 32]⟩, 4)]
def so3 : List invariant_simple := [⟨[0], ⟨#[97, 116]⟩, ⟨#[34, 97, 34, 32, 34, 112, 34, 32]⟩, false⟩, ⟨[0, 2], ⟨#[97, 116]⟩, ⟨#[34, 112, 34, 32]⟩, true⟩, ⟨[0, 1], ⟨#[97, 116]⟩, ⟨#[34, 97, 34, 32]⟩, true⟩, ⟨[1], ⟨#[97, 116]⟩, ⟨#[34, 97, 34, 32, 34, 113, 34, 32]⟩, false⟩, ⟨[1], ⟨#[97, 116]⟩, ⟨#[34, 113, 34, 32]⟩, true⟩, ⟨[2], ⟨#[97, 116]⟩, ⟨#[34, 98, 34, 32, 34, 112, 34, 32]⟩, false⟩, ⟨[2], ⟨#[97, 116]⟩, ⟨#[34, 98, 34, 32]⟩, true⟩]
def sm3 : SMap := [(⟨#[45, 49, 32, 50, 32, 34, 97, 116, 34, 32, 34, 97, 34, 32, 34, 112, 34, 32]⟩, 0), (⟨#[48, 32, 50, 32, 34, 97, 116, 34, 32, 34, 112, 34, 32]⟩, 1), (⟨#[49, 32, 50, 32, 34, 97, 116, 34, 32, 34, 97, 34, 32]⟩, 2), (⟨#[45, 49, 32, 50, 32, 34, 97, 116, 34, 32, 34, 97, 34, 32, 34, 113, 34, 32]⟩, 3), (⟨#[48, 32, 50, 32, 34, 97, 116, 34, 32, 34, 113, 34, 32]⟩, 4), (⟨#[45, 49, 32, 50, 32, 34, 97, 116, 34, 32, 34, 98, 34, 32, 34, 112, 34, 32]⟩, 5), (⟨#[49, 32, 50, 32, 34, 97, 116, 34, 32, 34, 98, 34, 32]⟩, 6)]
def so4 : List invariant_simple := [⟨[0], ⟨#[97, 116]⟩, ⟨#[34, 97, 34, 32, 34, 112, 34, 32]⟩, false⟩, ⟨[0, 2], ⟨#[97, 116]⟩, ⟨#[34, 112, 34, 32]⟩, true⟩, ⟨[0, 1], ⟨#[97, 116]⟩, ⟨#[34, 97, 34, 32]⟩, true⟩, ⟨[1], ⟨#[97, 116]⟩, ⟨#[34, 97, 34, 32, 34, 113, 34, 32]⟩, false⟩, ⟨[1, 3], ⟨#[97, 116]⟩, ⟨#[34, 113, 34, 32]⟩, true⟩, ⟨[2], ⟨#[97, 116]⟩, ⟨#[34, 98, 34, 32, 34, 112, 34, 32]⟩, false⟩, ⟨[2, 3], ⟨#[97, 116]⟩, ⟨#[34, 98, 34, 32]⟩, true⟩, ⟨[3], ⟨#[97, 116]⟩, ⟨#[34, 98, 34, 32, 34, 113, 34, 32]⟩, false⟩]
def sm4 : SMap := [(⟨#[45, 49, 32, 50, 32, 34, 97, 116, 34, 32, 34, 97, 34, 32, 34, 112, 34, 32]⟩, 0), (⟨#[48, 32, 50, 32, 34, 97, 116, 34, 32, 34, 112, 34, 32]⟩, 1), (⟨#[49, 32, 50, 32, 34, 97, 116, 34, 32, 34, 97, 34, 32]⟩, 2), (⟨#[45, 49, 32, 50, 32, 34, 97, 116, 34, 32, 34, 97, 34, 32, 34, 113, 34, 32]⟩, 3), (⟨#[48, 32, 50, 32, 34, 97, 116, 34, 32, 34, 113, 34, 32]⟩, 4), (⟨#[45, 49, 32, 50, 32, 34, 97, 116, 34, 32, 34, 98, 34, 32, 34, 112, 34, 32]⟩, 5), (⟨#[49, 32, 50, 32, 34, 97, 116, 34, 32, 34, 98, 34, 32]⟩, 6), (⟨#[45, 49, 32, 50, 32, 34, 97, 116, 34, 32, 34, 98, 34, 32, 34, 113, 34, 32]⟩, 7)]
theorem simples_ok : invariant_simples_p exam = some so4 := by
  unfold invariant_simples_p
  refine at_eq (so4, sm4) ?_ rfl
  refine forS_s (so1, sm1) (at_eq (exam.Atoms.getD 0 ⟨⟨#[]⟩, []⟩) rfl (ctlW 4 (.brk (2, sm1, so1)) (by kernel_rfl) rfl)) ?_
  refine forS_s (so2, sm2) (at_eq (exam.Atoms.getD 1 ⟨⟨#[]⟩, []⟩) rfl (ctlW 4 (.brk (2, sm2, so2)) (by kernel_rfl) rfl)) ?_
  refine forS_s (so3, sm3) (at_eq (exam.Atoms.getD 2 ⟨⟨#[]⟩, []⟩) rfl (ctlW 4 (.brk (2, sm3, so3)) (by kernel_rfl) rfl)) ?_
  refine forS_s (so4, sm4) (at_eq (exam.Atoms.getD 3 ⟨⟨#[]⟩, []⟩) rfl (ctlW 4 (.brk (2, sm4, so4)) (by kernel_rfl) rfl)) ?_
  rfl
def cd0 : List (List Int) := [[0], [0, 2], [0, 1], [1], [1, 3], [2], [2, 3], [3]]
def cds : List (List Int) := [[0], [0, 1], [0, 2], [1], [1, 3], [2], [2, 3], [3]]
theorem sort_ok : sortLists_p cd0 = some cds := by
  unfold sortLists_p
  rw [if_pos (by decide), sortL_eq (ys := cds) (by decide) (by decide)]
theorem compactF_ok : slices_CompactFunc_int_o_Equal_p cds = some (8, cds) := by
  unfold slices_CompactFunc_int_o_Equal_p
  rw [if_neg (by decide)]
  exact ctlW 8 (.brk 8) (by kernel_rfl) rfl
theorem cands_ok : invariant_candidates_p exam = some cds := by
  unfold invariant_candidates_p
  refine at_eq so4 simples_ok ?_
  refine at_eq ((cd0, [(⟨#[34, 97, 34, 32, 34, 112, 34, 32]⟩, [0]), (⟨#[34, 112, 34, 32]⟩, [1]), (⟨#[34, 97, 34, 32]⟩, [2]), (⟨#[34, 97, 34, 32, 34, 113, 34, 32]⟩, [3]), (⟨#[34, 113, 34, 32]⟩, [4]), (⟨#[34, 98, 34, 32, 34, 112, 34, 32]⟩, [5]), (⟨#[34, 98, 34, 32]⟩, [6]), (⟨#[34, 98, 34, 32, 34, 113, 34, 32]⟩, [7])]) : List (List Int) × List (ByteArray × List Int)) (by kernel_rfl) ?_
  refine at_eq cds sort_ok ?_
  refine at_eq (8, cds) compactF_ok ?_
  kernel_rfl
theorem perm_two {a b : Int} {ord : List Int} (h : ord.Perm [a, b]) : ord = [a, b] ∨ ord = [b, a] := by
  have hl := h.length_eq
  match ord, hl with
  | [x, y], _ =>
    have hx : x ∈ [a, b] := h.mem_iff.1 (by simp)
    rcases List.mem_cons.1 hx with rfl | hx
    · have := List.perm_singleton.1 ((List.perm_cons x).1 h)
      exact .inl (by rw [this])
    · have hxb : x = b := by simpa using hx
      subst hxb
      have := List.perm_singleton.1 ((List.perm_cons x).1 (h.trans (List.Perm.swap x a [])))
      exact .inr (by rw [this])
theorem bs_01_0 : slices_BinarySearch_int_p [0, 1] 0 = some (0, true) := by
  unfold slices_BinarySearch_int_p
  exact ctlW 3 (.brk (0, 0)) (by kernel_rfl) (by kernel_rfl)
theorem bs_01_1 : slices_BinarySearch_int_p [0, 1] 1 = some (1, true) := by
  unfold slices_BinarySearch_int_p
  exact ctlW 3 (.brk (1, 1)) (by kernel_rfl) (by kernel_rfl)
theorem bs_01_2 : slices_BinarySearch_int_p [0, 1] 2 = some (2, false) := by
  unfold slices_BinarySearch_int_p
  exact ctlW 3 (.brk (2, 2)) (by kernel_rfl) (by kernel_rfl)
theorem bs_01_3 : slices_BinarySearch_int_p [0, 1] 3 = some (2, false) := by
  unfold slices_BinarySearch_int_p
  exact ctlW 3 (.brk (2, 2)) (by kernel_rfl) (by kernel_rfl)
theorem bs_13_0 : slices_BinarySearch_int_p [1, 3] 0 = some (0, false) := by
  unfold slices_BinarySearch_int_p
  exact ctlW 3 (.brk (0, 0)) (by kernel_rfl) (by kernel_rfl)
theorem bs_13_1 : slices_BinarySearch_int_p [1, 3] 1 = some (0, true) := by
  unfold slices_BinarySearch_int_p
  exact ctlW 3 (.brk (0, 0)) (by kernel_rfl) (by kernel_rfl)
theorem bs_23_0 : slices_BinarySearch_int_p [2, 3] 0 = some (0, false) := by
  unfold slices_BinarySearch_int_p
  exact ctlW 3 (.brk (0, 0)) (by kernel_rfl) (by kernel_rfl)
theorem bs_23_1 : slices_BinarySearch_int_p [2, 3] 1 = some (0, false) := by
  unfold slices_BinarySearch_int_p
  exact ctlW 3 (.brk (0, 0)) (by kernel_rfl) (by kernel_rfl)
theorem bs_23_2 : slices_BinarySearch_int_p [2, 3] 2 = some (0, true) := by
  unfold slices_BinarySearch_int_p
  exact ctlW 3 (.brk (0, 0)) (by kernel_rfl) (by kernel_rfl)
theorem bs_23_3 : slices_BinarySearch_int_p [2, 3] 3 = some (1, true) := by
  unfold slices_BinarySearch_int_p
  exact ctlW 3 (.brk (1, 1)) (by kernel_rfl) (by kernel_rfl)
theorem keeps_0_01 : invariant_keeps_p xop0 [0, 1] = some true := by
  unfold invariant_keeps_p
  refine at_eq ([(⟨⟨[], [], []⟩, 1, true⟩ : GChange)] : List GChange) ?_ ?_
  · refine forS_s ([] : List GChange) (at_eq (⟨⟨[], [], []⟩, 0, false⟩ : GChange) rfl (at_eq (0, true) bs_01_0 (by kernel_rfl))) ?_
    refine forS_s ([(⟨⟨[], [], []⟩, 1, true⟩ : GChange)] : List GChange) (at_eq (⟨⟨[], [], []⟩, 1, true⟩ : GChange) rfl (at_eq (1, true) bs_01_1 (by kernel_rfl))) ?_
    rfl
  refine ctlN (([(⟨⟨[], [], []⟩, 1, true⟩ : GChange)] : List GChange), ([(⟨⟨[], [], []⟩, 1, true⟩ : GChange)] : List GChange)) (forC_s (([(⟨⟨[], [], []⟩, 1, true⟩ : GChange)] : List GChange), ([(⟨⟨[], [], []⟩, 1, true⟩ : GChange)] : List GChange)) ?_ rfl) rfl
  refine at_eq (⟨⟨[], [], []⟩, 1, true⟩ : GChange) rfl ?_
  refine at_eq [] (by kernel_rfl) ?_
  refine ctlN () rfl ?_
  refine ctlN () ?_ rfl
  refine forC_s () ?_ ?_
  · refine at_eq (0 : Int) rfl ?_
    rw [if_neg (by decide)]
    refine at_eq (true, (⟨[(0, true)], [(1, true)]⟩ : invariant_literals)) ?_ (by kernel_rfl)
    unfold invariant_situation_p
    refine at_eq ([(0, true)], []) (by kernel_rfl) ?_
    refine at_eq ([(0, true)], []) (by kernel_rfl) ?_
    refine at_eq [(0, true)] (by kernel_rfl) ?_
    refine at_eq [(1, true)] (by kernel_rfl) ?_
    exact rangeC_eq (by decide) fun ord h => by rw [List.perm_singleton.1 h]; kernel_rfl
  refine forC_s () (at_eq (1 : Int) rfl (by kernel_rfl)) ?_
  rfl
theorem keeps_1_01 : invariant_keeps_p xop1 [0, 1] = some true := by
  unfold invariant_keeps_p
  refine at_eq ([(⟨⟨[], [], []⟩, 0, true⟩ : GChange)] : List GChange) ?_ ?_
  · refine forS_s ([] : List GChange) (at_eq (⟨⟨[], [], []⟩, 1, false⟩ : GChange) rfl (at_eq (1, true) bs_01_1 (by kernel_rfl))) ?_
    refine forS_s ([(⟨⟨[], [], []⟩, 0, true⟩ : GChange)] : List GChange) (at_eq (⟨⟨[], [], []⟩, 0, true⟩ : GChange) rfl (at_eq (0, true) bs_01_0 (by kernel_rfl))) ?_
    rfl
  refine ctlN (([(⟨⟨[], [], []⟩, 0, true⟩ : GChange)] : List GChange), ([(⟨⟨[], [], []⟩, 0, true⟩ : GChange)] : List GChange)) (forC_s (([(⟨⟨[], [], []⟩, 0, true⟩ : GChange)] : List GChange), ([(⟨⟨[], [], []⟩, 0, true⟩ : GChange)] : List GChange)) ?_ rfl) rfl
  refine at_eq (⟨⟨[], [], []⟩, 0, true⟩ : GChange) rfl ?_
  refine at_eq [] (by kernel_rfl) ?_
  refine ctlN () rfl ?_
  refine ctlN () ?_ rfl
  refine forC_s () (at_eq (0 : Int) rfl (by kernel_rfl)) ?_
  refine forC_s () ?_ ?_
  · refine at_eq (1 : Int) rfl ?_
    rw [if_neg (by decide)]
    refine at_eq (true, (⟨[(1, true)], [(0, true)]⟩ : invariant_literals)) ?_ (by kernel_rfl)
    unfold invariant_situation_p
    refine at_eq ([(1, true)], []) (by kernel_rfl) ?_
    refine at_eq ([(1, true)], []) (by kernel_rfl) ?_
    refine at_eq [(1, true)] (by kernel_rfl) ?_
    refine at_eq [(0, true)] (by kernel_rfl) ?_
    exact rangeC_eq (by decide) fun ord h => by rw [List.perm_singleton.1 h]; kernel_rfl
  rfl
theorem keeps_2_01 : invariant_keeps_p xop2 [0, 1] = some true := by
  unfold invariant_keeps_p
  refine at_eq ([] : List GChange) ?_ ?_
  · refine forS_s ([] : List GChange) (at_eq (⟨⟨[], [], []⟩, 2, false⟩ : GChange) rfl (at_eq (2, false) bs_01_2 (by kernel_rfl))) ?_
    refine forS_s ([] : List GChange) (at_eq (⟨⟨[], [], []⟩, 3, true⟩ : GChange) rfl (at_eq (2, false) bs_01_3 (by kernel_rfl))) ?_
    rfl
  kernel_rfl
theorem keeps_3_01 : invariant_keeps_p xop3 [0, 1] = some true := by
  unfold invariant_keeps_p
  refine at_eq ([] : List GChange) ?_ ?_
  · refine forS_s ([] : List GChange) (at_eq (⟨⟨[], [], []⟩, 3, false⟩ : GChange) rfl (at_eq (2, false) bs_01_3 (by kernel_rfl))) ?_
    refine forS_s ([] : List GChange) (at_eq (⟨⟨[], [], []⟩, 2, true⟩ : GChange) rfl (at_eq (2, false) bs_01_2 (by kernel_rfl))) ?_
    rfl
  kernel_rfl
theorem keeps_0_23 : invariant_keeps_p xop0 [2, 3] = some true := by
  unfold invariant_keeps_p
  refine at_eq ([] : List GChange) ?_ ?_
  · refine forS_s ([] : List GChange) (at_eq (⟨⟨[], [], []⟩, 0, false⟩ : GChange) rfl (at_eq (0, false) bs_23_0 (by kernel_rfl))) ?_
    refine forS_s ([] : List GChange) (at_eq (⟨⟨[], [], []⟩, 1, true⟩ : GChange) rfl (at_eq (0, false) bs_23_1 (by kernel_rfl))) ?_
    rfl
  kernel_rfl
theorem keeps_1_23 : invariant_keeps_p xop1 [2, 3] = some true := by
  unfold invariant_keeps_p
  refine at_eq ([] : List GChange) ?_ ?_
  · refine forS_s ([] : List GChange) (at_eq (⟨⟨[], [], []⟩, 1, false⟩ : GChange) rfl (at_eq (0, false) bs_23_1 (by kernel_rfl))) ?_
    refine forS_s ([] : List GChange) (at_eq (⟨⟨[], [], []⟩, 0, true⟩ : GChange) rfl (at_eq (0, false) bs_23_0 (by kernel_rfl))) ?_
    rfl
  kernel_rfl
theorem keeps_2_23 : invariant_keeps_p xop2 [2, 3] = some true := by
  unfold invariant_keeps_p
  refine at_eq ([(⟨⟨[], [], []⟩, 3, true⟩ : GChange)] : List GChange) ?_ ?_
  · refine forS_s ([] : List GChange) (at_eq (⟨⟨[], [], []⟩, 2, false⟩ : GChange) rfl (at_eq (0, true) bs_23_2 (by kernel_rfl))) ?_
    refine forS_s ([(⟨⟨[], [], []⟩, 3, true⟩ : GChange)] : List GChange) (at_eq (⟨⟨[], [], []⟩, 3, true⟩ : GChange) rfl (at_eq (1, true) bs_23_3 (by kernel_rfl))) ?_
    rfl
  refine ctlN (([(⟨⟨[], [], []⟩, 3, true⟩ : GChange)] : List GChange), ([(⟨⟨[], [], []⟩, 3, true⟩ : GChange)] : List GChange)) (forC_s (([(⟨⟨[], [], []⟩, 3, true⟩ : GChange)] : List GChange), ([(⟨⟨[], [], []⟩, 3, true⟩ : GChange)] : List GChange)) ?_ rfl) rfl
  refine at_eq (⟨⟨[], [], []⟩, 3, true⟩ : GChange) rfl ?_
  refine at_eq [] (by kernel_rfl) ?_
  refine ctlN () rfl ?_
  refine ctlN () ?_ rfl
  refine forC_s () ?_ ?_
  · refine at_eq (2 : Int) rfl ?_
    rw [if_neg (by decide)]
    refine at_eq (true, (⟨[(2, true)], [(3, true)]⟩ : invariant_literals)) ?_ (by kernel_rfl)
    unfold invariant_situation_p
    refine at_eq ([(2, true)], []) (by kernel_rfl) ?_
    refine at_eq ([(2, true)], []) (by kernel_rfl) ?_
    refine at_eq [(2, true)] (by kernel_rfl) ?_
    refine at_eq [(3, true)] (by kernel_rfl) ?_
    exact rangeC_eq (by decide) fun ord h => by rw [List.perm_singleton.1 h]; kernel_rfl
  refine forC_s () (at_eq (3 : Int) rfl (by kernel_rfl)) ?_
  rfl
theorem keeps_3_23 : invariant_keeps_p xop3 [2, 3] = some true := by
  unfold invariant_keeps_p
  refine at_eq ([(⟨⟨[], [], []⟩, 2, true⟩ : GChange)] : List GChange) ?_ ?_
  · refine forS_s ([] : List GChange) (at_eq (⟨⟨[], [], []⟩, 3, false⟩ : GChange) rfl (at_eq (1, true) bs_23_3 (by kernel_rfl))) ?_
    refine forS_s ([(⟨⟨[], [], []⟩, 2, true⟩ : GChange)] : List GChange) (at_eq (⟨⟨[], [], []⟩, 2, true⟩ : GChange) rfl (at_eq (0, true) bs_23_2 (by kernel_rfl))) ?_
    rfl
  refine ctlN (([(⟨⟨[], [], []⟩, 2, true⟩ : GChange)] : List GChange), ([(⟨⟨[], [], []⟩, 2, true⟩ : GChange)] : List GChange)) (forC_s (([(⟨⟨[], [], []⟩, 2, true⟩ : GChange)] : List GChange), ([(⟨⟨[], [], []⟩, 2, true⟩ : GChange)] : List GChange)) ?_ rfl) rfl
  refine at_eq (⟨⟨[], [], []⟩, 2, true⟩ : GChange) rfl ?_
  refine at_eq [] (by kernel_rfl) ?_
  refine ctlN () rfl ?_
  refine ctlN () ?_ rfl
  refine forC_s () (at_eq (2 : Int) rfl (by kernel_rfl)) ?_
  refine forC_s () ?_ ?_
  · refine at_eq (3 : Int) rfl ?_
    rw [if_neg (by decide)]
    refine at_eq (true, (⟨[(3, true)], [(2, true)]⟩ : invariant_literals)) ?_ (by kernel_rfl)
    unfold invariant_situation_p
    refine at_eq ([(3, true)], []) (by kernel_rfl) ?_
    refine at_eq ([(3, true)], []) (by kernel_rfl) ?_
    refine at_eq [(3, true)] (by kernel_rfl) ?_
    refine at_eq [(2, true)] (by kernel_rfl) ?_
    exact rangeC_eq (by decide) fun ord h => by rw [List.perm_singleton.1 h]; kernel_rfl
  rfl
theorem keeps_0_13 : invariant_keeps_p xop0 [1, 3] = some false := by
  unfold invariant_keeps_p
  refine at_eq ([(⟨⟨[], [], []⟩, 1, true⟩ : GChange)] : List GChange) ?_ ?_
  · refine forS_s ([] : List GChange) (at_eq (⟨⟨[], [], []⟩, 0, false⟩ : GChange) rfl (at_eq (0, false) bs_13_0 (by kernel_rfl))) ?_
    refine forS_s ([(⟨⟨[], [], []⟩, 1, true⟩ : GChange)] : List GChange) (at_eq (⟨⟨[], [], []⟩, 1, true⟩ : GChange) rfl (at_eq (0, true) bs_13_1 (by kernel_rfl))) ?_
    rfl
  refine ctlR false (forC_r false ?_) rfl
  refine at_eq (⟨⟨[], [], []⟩, 1, true⟩ : GChange) rfl ?_
  refine at_eq [] (by kernel_rfl) ?_
  refine ctlN () rfl ?_
  refine ctlR false ?_ rfl
  refine forC_s () (at_eq (1 : Int) rfl (by kernel_rfl)) ?_
  refine forC_r false ?_
  refine at_eq (3 : Int) rfl ?_
  rw [if_neg (by decide)]
  refine at_eq (true, (⟨[(0, true), (3, true)], [(1, true)]⟩ : invariant_literals)) ?_ (by kernel_rfl)
  unfold invariant_situation_p
  refine at_eq ([(0, true)], []) (by kernel_rfl) ?_
  refine at_eq ([(0, true)], []) (by kernel_rfl) ?_
  refine at_eq [(0, true), (3, true)] (by kernel_rfl) ?_
  refine at_eq [(1, true)] (by kernel_rfl) ?_
  exact rangeC_eq (by decide) fun ord h => by rcases perm_two h with rfl | rfl <;> kernel_rfl
theorem bal_02 : invariant_balanced_p exam [0, 2] = some false := by kernel_rfl
theorem bal_01 : invariant_balanced_p exam [0, 1] = some true := by
  unfold invariant_balanced_p
  refine ctlN () (by kernel_rfl) (at_eq true (by kernel_rfl) ?_)
  rw [if_neg (by decide)]
  refine ctlN () ?_ rfl
  refine forC_s () (at_eq xop0 rfl (at_eq true keeps_0_01 rfl)) ?_
  refine forC_s () (at_eq xop1 rfl (at_eq true keeps_1_01 rfl)) ?_
  refine forC_s () (at_eq xop2 rfl (at_eq true keeps_2_01 rfl)) ?_
  refine forC_s () (at_eq xop3 rfl (at_eq true keeps_3_01 rfl)) ?_
  rfl
theorem bal_23 : invariant_balanced_p exam [2, 3] = some true := by
  unfold invariant_balanced_p
  refine ctlN () (by kernel_rfl) (at_eq true (by kernel_rfl) ?_)
  rw [if_neg (by decide)]
  refine ctlN () ?_ rfl
  refine forC_s () (at_eq xop0 rfl (at_eq true keeps_0_23 rfl)) ?_
  refine forC_s () (at_eq xop1 rfl (at_eq true keeps_1_23 rfl)) ?_
  refine forC_s () (at_eq xop2 rfl (at_eq true keeps_2_23 rfl)) ?_
  refine forC_s () (at_eq xop3 rfl (at_eq true keeps_3_23 rfl)) ?_
  rfl
theorem bal_13 : invariant_balanced_p exam [1, 3] = some false := by
  unfold invariant_balanced_p
  refine ctlN () (by kernel_rfl) (at_eq true (by kernel_rfl) ?_)
  rw [if_neg (by decide)]
  refine ctlR false ?_ rfl
  exact forC_r false (at_eq xop0 rfl (at_eq false keeps_0_13 rfl))
theorem groups_ok (fu : Nat) : invariant_Groups_p fu exam = some ([[0, 1], [2, 3]], none) := by
  unfold invariant_Groups_p
  refine at_eq true (validE_ok fu) ?_
  rw [if_neg (by decide)]
  refine at_eq cds cands_ok ?_
  refine at_eq ([[0, 1], [2, 3]] : List (List Int)) ?_ ?_
  · refine forS_s ([] : List (List Int)) (by kernel_rfl) ?_
    refine forS_s ([[0, 1]] : List (List Int)) (at_eq [0, 1] rfl (at_eq true (at_eq true bal_01 rfl) rfl)) ?_
    refine forS_s ([[0, 1]] : List (List Int)) (at_eq [0, 2] rfl (at_eq false (at_eq false bal_02 rfl) rfl)) ?_
    refine forS_s ([[0, 1]] : List (List Int)) (by kernel_rfl) ?_
    refine forS_s ([[0, 1]] : List (List Int)) (at_eq [1, 3] rfl (at_eq false (at_eq false bal_13 rfl) rfl)) ?_
    refine forS_s ([[0, 1]] : List (List Int)) (by kernel_rfl) ?_
    refine forS_s ([[0, 1], [2, 3]] : List (List Int)) (at_eq [2, 3] rfl (at_eq true (at_eq true bal_23 rfl) rfl)) ?_
    refine forS_s ([[0, 1], [2, 3]] : List (List Int)) (by kernel_rfl) ?_
    rfl
  refine at_eq ([[0, 1], [2, 3]] : List (List Int)) ?_ rfl
  refine forS_s ([[0, 1]] : List (List Int)) (at_eq [0, 1] rfl (at_eq false ?_ (by kernel_rfl))) (forS_s ([[0, 1], [2, 3]] : List (List Int)) (at_eq [2, 3] rfl (at_eq false ?_ (by kernel_rfl))) rfl)
  · refine forS_s false (by kernel_rfl) (forS_s false (at_eq [2, 3] rfl (at_eq false ?_ rfl)) rfl)
    refine at_eq false ?_ rfl
    unfold invariant_inside_p
    rw [if_neg (by decide)]
    refine ctlR false (forC_r false ?_) rfl
    refine at_eq (0 : Int) rfl ?_
    exact at_eq (0, false) bs_23_0 rfl
  · refine forS_s false (at_eq [0, 1] rfl (at_eq false ?_ rfl)) (forS_s false (by kernel_rfl) rfl)
    refine at_eq false ?_ rfl
    unfold invariant_inside_p
    rw [if_neg (by decide)]
    refine ctlR false (forC_r false ?_) rfl
    refine at_eq (2 : Int) rfl ?_
    exact at_eq (2, false) bs_01_2 rfl
theorem awake_ok (fu : Nat) : law20_awake_p fu = some true := by
  unfold law20_awake_p
  refine at_eq exam example_ok ?_
  refine at_eq _ (groups_ok fu) ?_
  refine at_eq true ?_ rfl
  dsimp only [un2]
  rw [if_pos (by decide), if_pos (by decide)]
  refine at_eq [0, 1] rfl ?_
  refine at_eq true (by kernel_rfl) ?_
  rw [if_pos rfl]
  refine at_eq [2, 3] rfl ?_
  refine at_eq true (by kernel_rfl) ?_
  rw [if_pos rfl]
  refine at_eq exam example_ok ?_
  refine at_eq false ?_ rfl
  unfold invariant_Balanced_p
  refine at_eq false (at_eq true (validE_ok fu) ?_) rfl
  rw [if_pos rfl]
  exact at_eq false bal_02 rfl
end Go.Pw
/-
  The reference's words of chapter 20, in plain Lean: has, within.
-/
set_option maxHeartbeats 4000000
namespace Go.Pw
/-! ### the reference's situation -/
def posL (o : GOp) (d : List GChange) (b : Int) (g : List Int) : List Int := o.Pre.Pos ++ d.flatMap (fun c => c.When.Pos) ++ g.filter (fun x => decide (x = b))
def negL (o : GOp) (d : List GChange) (b : Int) (g : List Int) : List Int := o.Pre.Neg ++ d.flatMap (fun c => c.When.Neg) ++ g.filter (fun x => !decide (x = b))
end Go.Pw
/-
  Situations, in plain Lean: the reference's and the program's.
-/
set_option maxHeartbeats 4000000
namespace Go.Pw
/-! ### keys put into a map -/
def Keys (m : BMap) (l : List Int) : Prop := ∀ a, bget m a = if a ∈ l then some true else none
theorem Keys.put {m : BMap} {l : List Int} (h : Keys m l) (x : Int) : Keys (bput m x true) (l ++ [x]) := fun a => by
  rw [bget_put, h a]
  by_cases e : x = a
  · subst e; simp
  · have e2 : ¬ a = x := fun q => e q.symm
    rw [if_neg e]; simp [e2]
/-- The keys of a map, each once. -/
theorem keys_mem {m : BMap} {a : Int} : a ∈ m.map Prod.fst ↔ (bget m a).isSome = true := by
  induction m with
  | nil => simp [bget]
  | cons p r ih =>
    obtain ⟨k, u⟩ := p
    rw [List.map_cons, List.mem_cons]
    unfold bget
    by_cases h : k = a
    · rw [if_pos h]; simp [h]
    · rw [if_neg h, ih]
      exact ⟨fun q => q.elim (fun q => absurd q.symm h) id, .inr⟩
theorem keys_put {m : BMap} (h : (m.map Prod.fst).Nodup) (s : Int) (v : Bool) : ((bput m s v).map Prod.fst).Nodup := by
  induction m with
  | nil => simp [bput]
  | cons p r ih =>
    obtain ⟨k, u⟩ := p
    rw [List.map_cons, List.nodup_cons] at h
    unfold bput
    by_cases e : k = s
    · rw [if_pos e, List.map_cons, List.nodup_cons]; exact h
    · rw [if_neg e, List.map_cons, List.nodup_cons]
      refine ⟨fun q => h.1 ?_, ih h.2⟩
      rw [keys_mem, bget_put] at q
      rw [if_neg (fun q => e q.symm)] at q
      exact keys_mem.2 q
theorem put_loop (c : List Int) (hc : ∀ x ∈ c, i64ok x) : ∀ (xs pre : List Int) (m : BMap) (l : List Int), c = pre ++ xs → Keys m l → m.length + xs.length ≤ 1000000 →
    ∃ m', forS (fun i100 => fun (l100 : BMap) => (idx c (i100 : Int)).bind fun x100 => (bmapPut l100 x100 true).bind fun m100 => some m100) xs.length pre.length m = some m' ∧ Keys m' (l ++ xs) ∧ m'.length ≤ m.length + xs.length ∧ ((m.map Prod.fst).Nodup → (m'.map Prod.fst).Nodup)
  | [], pre, m, l, _, h, _ => ⟨m, rfl, by rw [List.append_nil]; exact h, Nat.le_refl _, id⟩
  | x :: xs, pre, m, l, e, h, hl => by
    rw [List.length_cons] at hl
    have hx : c[pre.length]? = some x := by rw [e, List.getElem?_append_right (Nat.le_refl _)]; simp
    have hlen : (bput m x true).length ≤ m.length + 1 := by rw [bput_length]; split <;> omega
    obtain ⟨m', h1, h2, h3, h4⟩ := put_loop c hc xs (pre ++ [x]) (bput m x true) (l ++ [x]) (by simp [e]) (h.put x) (by omega)
    refine ⟨m', ?_, by simpa using h2, by rw [List.length_cons]; omega, fun q => h4 (keys_put q x true)⟩
    rw [List.length_cons]
    refine forS_s (bput m x true) ?_ ?_
    · simp only [idx_nat, hx, Option.bind_some]
      unfold bmapPut
      rw [if_pos ⟨hc x (List.mem_of_getElem? hx), by unfold maxLen; omega⟩, Option.bind_some]
    · rw [List.length_append, List.length_singleton] at h1
      exact h1
end Go.Pw
/-
  Situations, in plain Lean: the program's.
-/
set_option maxHeartbeats 4000000
namespace Go.Pw
theorem c1_ok {c : Cond} {mp mn : BMap} {lp ln : List Int} (hp : ∀ x ∈ c.Pos, i64ok x) (hn : ∀ x ∈ c.Neg, i64ok x) (h1 : Keys mp lp) (h2 : Keys mn ln) (l1 : mp.length + c.Pos.length ≤ 1000000) (l2 : mn.length + c.Neg.length ≤ 1000000) :
    ∃ m n, invariant_situation_c1_p c ⟨mp, mn⟩ = some (m, n) ∧ Keys m (lp ++ c.Pos) ∧ Keys n (ln ++ c.Neg) ∧ m.length ≤ mp.length + c.Pos.length ∧ n.length ≤ mn.length + c.Neg.length ∧ ((mp.map Prod.fst).Nodup → (m.map Prod.fst).Nodup) := by
  obtain ⟨m, e1, k1, g1, n1⟩ := put_loop c.Pos hp c.Pos [] mp lp rfl h1 l1
  obtain ⟨n, e2, k2, g2, _⟩ := put_loop c.Neg hn c.Neg [] mn ln rfl h2 l2
  refine ⟨m, n, ?_, k1, k2, g1, g2, n1⟩
  unfold invariant_situation_c1_p
  refine at_eq m e1 ?_
  exact at_eq n e2 rfl
theorem fold_ok {N : BMap} {L : List Int} (hN : Keys N L) {R : Type} {r : R} : ∀ (ord : List Int), (∀ x ∈ ord, i64ok x) →
    foldC (R := R) (fun x102 => fun (_ : Unit) => (bmapGet N x102).bind fun q100 => if q100 then (some (Ctl.ret r)) else (some (Ctl.next ()))) ord () = some (if ∀ x ∈ ord, x ∉ L then .next () else .ret r)
  | [], _ => by simp [foldC]
  | x :: xs, h => by
    have hx := h x (List.mem_cons_self ..)
    rw [foldC]
    unfold bmapGet
    rw [if_pos hx, Option.bind_some, hN x]
    by_cases hL : x ∈ L
    · rw [if_neg (c := ∀ y ∈ x :: xs, y ∉ L) (fun q => q x (List.mem_cons_self ..) hL), if_pos hL]; rfl
    · rw [if_neg hL]
      simp only [Option.getD_none, Bool.false_eq_true, if_false]
      have ih := fold_ok hN (r := r) xs (fun y hy => h y (List.mem_cons_of_mem _ hy))
      unfold bmapGet at ih
      refine ih.trans ?_
      by_cases q : ∀ x ∈ xs, x ∉ L
      · rw [if_pos q, if_pos (fun y hy => (List.mem_cons.1 hy).elim (fun e => e ▸ hL) (q y))]
      · rw [if_neg q, if_neg (fun z => q fun y hy => z y (List.mem_cons_of_mem _ hy))]
end Go.Pw
/-
  Situations, in plain Lean: the program's, whole.
-/
set_option maxHeartbeats 4000000
namespace Go.Pw
def OkC (c : Cond) : Prop := (∀ x ∈ c.Pos, i64ok x) ∧ (∀ x ∈ c.Neg, i64ok x)
theorem whenP_loop (d : List GChange) (hd : ∀ c ∈ d, OkC c.When) : ∀ (xs pre : List GChange) (mp mn : BMap) (lp ln : List Int), d = pre ++ xs → Keys mp lp → Keys mn ln → mp.length + (xs.flatMap (fun c => c.When.Pos)).length ≤ 1000000 → mn.length + (xs.flatMap (fun c => c.When.Neg)).length ≤ 1000000 →
    ∃ m n, forS (fun i100 => un2 fun (l102 : BMap) (l103 : BMap) => (idx d (i100 : Int)).bind fun x100 =>
      (invariant_situation_c1_p x100.When (⟨l102, l103⟩ : invariant_literals)).bind <| un2 fun (l104 : BMap) (l105 : BMap) =>
      some (l104, l105)) xs.length pre.length (mp, mn) = some (m, n) ∧ Keys m (lp ++ xs.flatMap (fun c => c.When.Pos)) ∧ Keys n (ln ++ xs.flatMap (fun c => c.When.Neg)) ∧
      m.length ≤ mp.length + (xs.flatMap (fun c => c.When.Pos)).length ∧ n.length ≤ mn.length + (xs.flatMap (fun c => c.When.Neg)).length ∧ ((mp.map Prod.fst).Nodup → (m.map Prod.fst).Nodup)
  | [], pre, mp, mn, lp, ln, _, h1, h2, _, _ => ⟨mp, mn, rfl, by simpa using h1, by simpa using h2, by simp, by simp, id⟩
  | x :: xs, pre, mp, mn, lp, ln, e, h1, h2, l1, l2 => by
    rw [List.flatMap_cons, List.length_append] at l1 l2
    have hx : d[pre.length]? = some x := by rw [e, List.getElem?_append_right (Nat.le_refl _)]; simp
    have ho := hd x (List.mem_of_getElem? hx)
    obtain ⟨m, n, e1, k1, k2, g1, g2, n1⟩ := c1_ok (c := x.When) ho.1 ho.2 h1 h2 (by omega) (by omega)
    obtain ⟨m', n', e2, k3, k4, g3, g4, n2⟩ := whenP_loop d hd xs (pre ++ [x]) m n (lp ++ x.When.Pos) (ln ++ x.When.Neg) (by simp [e]) k1 k2 (by omega) (by omega)
    refine ⟨m', n', ?_, by simpa [List.flatMap_cons] using k3, by simpa [List.flatMap_cons] using k4, by rw [List.flatMap_cons, List.length_append]; omega, by rw [List.flatMap_cons, List.length_append]; omega, fun q => n2 (n1 q)⟩
    rw [List.length_cons]
    refine forS_s (m, n) ?_ ?_
    · simp only [un2, idx_nat, hx, Option.bind_some]
      rw [e1, Option.bind_some]
    · rw [List.length_append, List.length_singleton] at e2
      exact e2
end Go.Pw
/-
  Situations, in plain Lean: the program's result.
-/
set_option maxHeartbeats 4000000
namespace Go.Pw
theorem groupP_loop (g : List Int) (hg : ∀ x ∈ g, i64ok x) (b : Int) : ∀ (xs pre : List Int) (n : BMap) (ln : List Int), g = pre ++ xs → Keys n ln → n.length + xs.length ≤ 2000000 →
    ∃ n', forS (fun i101 => fun (l107 : BMap) => (idx g (i101 : Int)).bind fun x101 =>
      (if !decide (x101 = b) then ((bmapPut l107 x101 true).bind fun m101 =>
      some m101)
      else (some l107)).bind (fun (l108 : BMap) => some l108)) xs.length pre.length n = some n' ∧ Keys n' (ln ++ xs.filter (fun x => !decide (x = b)))
  | [], pre, n, ln, _, h, _ => ⟨n, rfl, by simpa using h⟩
  | x :: xs, pre, n, ln, e, h, hl => by
    rw [List.length_cons] at hl
    have hx : g[pre.length]? = some x := by rw [e, List.getElem?_append_right (Nat.le_refl _)]; simp
    by_cases hb : x = b
    · obtain ⟨n', h1, h2⟩ := groupP_loop g hg b xs (pre ++ [x]) n ln (by simp [e]) h (by omega)
      refine ⟨n', ?_, by simpa [hb] using h2⟩
      rw [List.length_cons]
      refine forS_s n ?_ ?_
      · simp only [idx_nat, hx, Option.bind_some]
        rw [if_neg (by simpa using hb)]; rfl
      · rw [List.length_append, List.length_singleton] at h1; exact h1
    · have hlen : (bput n x true).length ≤ n.length + 1 := by rw [bput_length]; split <;> omega
      obtain ⟨n', h1, h2⟩ := groupP_loop g hg b xs (pre ++ [x]) (bput n x true) (ln ++ [x]) (by simp [e]) (h.put x) (by omega)
      refine ⟨n', ?_, by simpa [hb] using h2⟩
      rw [List.length_cons]
      refine forS_s (bput n x true) ?_ ?_
      · simp only [idx_nat, hx, Option.bind_some]
        rw [if_pos (by simpa using hb)]
        unfold bmapPut
        rw [if_pos ⟨hg x (List.mem_of_getElem? hx), by unfold maxLen; omega⟩]; rfl
      · rw [List.length_append, List.length_singleton] at h1; exact h1
def posP (o : GOp) (d : List GChange) (b : Int) : List Int := o.Pre.Pos ++ d.flatMap (fun c => c.When.Pos) ++ (if 0 ≤ b then [b] else [])
theorem sitP_ok {o : GOp} {d : List GChange} {b : Int} {g : List Int} (ho : OkC o.Pre) (hd : ∀ c ∈ d, OkC c.When) (hb : i64ok b) (hg : ∀ x ∈ g, i64ok x)
    (h1 : o.Pre.Pos.length + (d.flatMap (fun c => c.When.Pos)).length ≤ 900000) (h2 : o.Pre.Neg.length + (d.flatMap (fun c => c.When.Neg)).length ≤ 900000) (h3 : g.length ≤ 900000) :
    ∃ mp mn, invariant_situation_p o d b g = some (decide (∀ x ∈ posP o d b, x ∉ negL o d b g), ⟨mp, mn⟩) ∧ Keys mp (posP o d b) ∧ Keys mn (negL o d b g) := by
  obtain ⟨m1, n1, e1, k1, k2, g1, g2, u1⟩ := c1_ok (c := o.Pre) (mp := []) (mn := []) (lp := []) (ln := []) ho.1 ho.2 (fun a => by simp [bget]) (fun a => by simp [bget]) (by simp; omega) (by simp; omega)
  simp only [List.nil_append, List.length_nil, Nat.zero_add] at k1 k2 g1 g2
  obtain ⟨m2, n2, e2, k3, k4, g3, g4, u2⟩ := whenP_loop d hd d [] m1 n1 o.Pre.Pos o.Pre.Neg rfl k1 k2 (by omega) (by omega)
  obtain ⟨m3, e3, k5, u3⟩ : ∃ m3, (if decide (0 ≤ b) = true then (bmapPut m2 b true).bind fun m100 => some m100 else some m2) = some m3 ∧ Keys m3 (posP o d b) ∧ ((m2.map Prod.fst).Nodup → (m3.map Prod.fst).Nodup) := by
    unfold posP
    by_cases h0 : 0 ≤ b
    · refine ⟨bput m2 b true, ?_, by rw [if_pos h0]; exact k3.put b, fun q => keys_put q b true⟩
      rw [if_pos (by simpa using h0)]
      unfold bmapPut
      rw [if_pos ⟨hb, by unfold maxLen; omega⟩]; rfl
    · exact ⟨m2, by rw [if_neg (by simpa using h0)], by rw [if_neg h0, List.append_nil]; exact k3, id⟩
  obtain ⟨n3, e4, k6⟩ := groupP_loop g hg b g [] n2 _ rfl k4 (by omega)
  refine ⟨m3, n3, ?_, k5, k6⟩
  unfold invariant_situation_p
  refine at_eq (m1, n1) e1 ?_
  refine at_eq (m2, n2) e2 ?_
  refine at_eq m3 e3 ?_
  refine at_eq n3 e4 ?_
  have hnd : (m3.map Prod.fst).Nodup := u3 (u2 (u1 (by simp)))
  refine rangeC_eq hnd fun ord hord => ?_
  have hmem : ∀ x, x ∈ ord ↔ x ∈ posP o d b := fun x => by
    rw [hord.mem_iff, keys_mem, k5 x]
    by_cases q : x ∈ posP o d b <;> simp [q]
  have hi : ∀ x ∈ ord, i64ok x := fun x hx => by
    have := (hmem x).1 hx
    unfold posP at this
    simp only [List.mem_append, List.mem_flatMap] at this
    rcases this with (q | ⟨c, hc, q⟩) | q
    · exact ho.1 x q
    · exact (hd c hc).1 x q
    · split at q
      · simp at q; subst q; exact hb
      · simp at q
  rw [fold_ok k6 ord hi]
  have e5 : (∀ x ∈ ord, x ∉ negL o d b g) ↔ ∀ x ∈ posP o d b, x ∉ negL o d b g := ⟨fun q x hx => q x ((hmem x).2 hx), fun q x hx => q x ((hmem x).1 hx)⟩
  by_cases q : ∀ x ∈ posP o d b, x ∉ negL o d b g
  · rw [decide_eq_true q]
    exact congrArg (fun z => ctl (some z) _ _) (if_pos (e5.2 q))
  · rw [decide_eq_false q]
    exact congrArg (fun z => ctl (some z) _ _) (if_neg (fun z => q (e5.1 z)))
end Go.Pw
