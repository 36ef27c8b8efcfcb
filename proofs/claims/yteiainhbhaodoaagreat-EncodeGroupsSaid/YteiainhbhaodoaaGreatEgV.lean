/- -/
import Derived.Test.YteiainhbhaodoaaGreatEgP
import Derived.Test.YteiainhbhaodoaaGreatBB
import Derived.Test.YteiainhbhaodoaaGreatB5
set_option maxHeartbeats 8000000
set_option linter.unusedSimpArgs false
set_option linter.unusedVariables false
namespace Go.Pw
abbrev QiB : ByteArray := ⟨#[110, 117, 109, 98, 101, 114]⟩
abbrev QhY : ByteArray := ⟨#[102, 108, 117, 101, 110, 116]⟩
abbrev Qj3 : ByteArray := ⟨#[43]⟩
abbrev Qj2 : ByteArray := ⟨#[45]⟩
abbrev Qks : ByteArray := ⟨#[42]⟩
theorem Qy {α : Type} {xs : List α} {i : Nat} (h : i < xs.length) : ∃ x, xs[i]? = some x := ⟨xs[i], by simp [h]⟩
inductive RE (n : Int) : GExpr → Prop
 | num {N : Int} : -1099511627776 ≤ N → N ≤ 1099511627776 → RE n ⟨QiB, N, []⟩
 | flu {N : Int} : 0 ≤ N → N < n → RE n ⟨QhY, N, []⟩
 | bin {op : ByteArray} {a b : GExpr} : (op = Qj3 ∨ op = Qj2 ∨ op = Qks) → RE n a → RE n b → RE n ⟨op, 0, [a, b]⟩
theorem QaS {e : GExpr} {k : GExpr} (h : k ∈ e.Kids) : SizeOf.sizeOf k < SizeOf.sizeOf e := by
 have := List.sizeOf_lt_of_mem h
 cases e
 simp only [GExpr.mk.sizeOf_spec] at *
 omega
open Classical in
theorem Qb7 : ∀ (fu : Nat) (e : GExpr) (n : Int), SizeOf.sizeOf e < fu → Q8 fu e n = some (decide (RE n e))
 | 0, e, n, h => absurd h (Nat.not_lt_zero _)
 | fu + 1, ⟨op, N, kids⟩, n, h => by
  rw [Q8]
  simp only
  have hkl : (kids.length : Int) = 0 ↔ kids = [] := by
   constructor
   ·intro h; exact List.eq_nil_of_length_eq_zero (by omega)
   ·rintro rfl; rfl
  by_cases h1 : op = QiB
  ·subst h1
   have hR : RE n ⟨QiB, N, kids⟩ ↔ kids = [] ∧ -1099511627776 ≤ N ∧ N ≤ 1099511627776 := by
    constructor
    ·intro hr
     cases hr with
     | num a b => exact ⟨rfl, a, b⟩
     | bin ho => rcases ho with h | h | h <;> cases h
    ·rintro ⟨rfl, a, b⟩; exact .num a b
   rw [if_pos (decide_eq_true rfl), ← Bool.decide_and, ← Bool.decide_and]
   congr 1
   exact decide_eq_decide.2 (by rw [hR, hkl])
  ·have h1' : ¬ (decide (op = (⟨#[110, 117, 109, 98, 101, 114]⟩ : ByteArray)) = true) := by simpa using h1
   rw [if_neg h1']
   by_cases h2 : op = QhY
   ·subst h2
    have hR : RE n ⟨QhY, N, kids⟩ ↔ kids = [] ∧ 0 ≤ N ∧ N < n := by
     constructor
     ·intro hr
      cases hr with
      | flu a b => exact ⟨rfl, a, b⟩
      | bin ho => rcases ho with h | h | h <;> cases h
     ·rintro ⟨rfl, a, b⟩; exact .flu a b
    rw [if_pos (decide_eq_true rfl), ← Bool.decide_and, ← Bool.decide_and]
    congr 1
    exact decide_eq_decide.2 (by rw [hR, hkl])
   ·have h2' : ¬ (decide (op = (⟨#[102, 108, 117, 101, 110, 116]⟩ : ByteArray)) = true) := by simpa using h2
    rw [if_neg h2']
    have hz : (if decide (op = (⟨#[43]⟩ : ByteArray)) = true then some (decide (op = (⟨#[43]⟩ : ByteArray))) else
      ((if decide (op = (⟨#[45]⟩ : ByteArray)) = true then some (decide (op = (⟨#[45]⟩ : ByteArray))) else some (decide (op = (⟨#[42]⟩ : ByteArray)))).bind fun (z100 : Bool) => some z100)) = some (decide (op = Qj3 ∨ op = Qj2 ∨ op = Qks)) := by
     by_cases a : op = Qj3
     ·simp [a]
     ·by_cases b : op = Qj2
      ·simp [b]
      ·simp [a, b]
    rw [hz]
    simp only [Option.bind_some]
    by_cases ho : op = Qj3 ∨ op = Qj2 ∨ op = Qks
    ·rw [if_pos (decide_eq_true ho)]
     by_cases hN : N = 0
     ·subst hN
      rw [if_pos (decide_eq_true rfl)]
      by_cases hk : (kids.length : Int) = 2
      ·obtain ⟨a, b, rfl⟩ : ∃ a b, kids = [a, b] := by
        match kids, hk with
        | [a, b], _ => exact ⟨a, b, rfl⟩
        | [], h => simp at h
        | [_], h => simp at h
        | _ :: _ :: _ :: _, h => simp at h; omega
       have sa : SizeOf.sizeOf a < fu := by
        have := QaS (e := ⟨op, 0, [a, b]⟩) (k := a) (by simp)
        omega
       have sb : SizeOf.sizeOf b < fu := by
        have := QaS (e := ⟨op, 0, [a, b]⟩) (k := b) (by simp)
        omega
       have i0 : Q9 [a, b] 0 = some a := rfl
       have i1 : Q9 [a, b] 1 = some b := rfl
       rw [if_pos (decide_eq_true hk), i0]
       simp only [Option.bind_some, Qb7 fu a n sa]
       have hR : RE n ⟨op, 0, [a, b]⟩ ↔ RE n a ∧ RE n b := by
        constructor
        ·intro hr
         cases hr with
         | bin _ p q => exact ⟨p, q⟩
        ·rintro ⟨p, q⟩; exact .bin ho p q
       by_cases ra : RE n a
       ·simp only [ra, decide_true, if_true, i1, Option.bind_some, Qb7 fu b n sb]
        congr 1
        exact decide_eq_decide.2 (by rw [hR]; simp [ra])
       ·simp only [ra, decide_false, Bool.false_eq_true, if_false, Option.bind_some]
        congr 1
        exact (decide_eq_false fun hr => ra (hR.1 hr).1).symm
      ·have hk' : ¬ (decide ((kids.length : Int) = 2) = true) := by simpa using hk
       rw [if_neg hk']
       simp only [Option.bind_some]
       congr 1
       refine (decide_eq_false fun hr => ?_).symm
       cases hr with
       | bin _ _ _ => exact hk rfl
       | num => exact h1 rfl
       | flu => exact h2 rfl
     ·have hN' : ¬ (decide (N = 0) = true) := by simpa using hN
      rw [if_neg hN']
      simp only [Option.bind_some]
      congr 1
      refine (decide_eq_false fun hr => ?_).symm
      cases hr with
      | bin _ _ _ => exact hN rfl
      | num => exact h1 rfl
      | flu => exact h2 rfl
    ·rw [if_neg (by simpa using ho)]
     congr 1
     refine (decide_eq_false fun hr => ?_).symm
     cases hr with
     | bin q _ _ => exact ho q
     | num => exact h1 rfl
     | flu => exact h2 rfl
def QaQ (l : List Int) (n : Int) (i : Nat) : Prop := ∀ x, l[i]? = some x → 0 ≤ x ∧ x < n ∧ ∀ y, 0 < i → l[i - 1]? = some y → y < x
def Asc (l : List Int) (n : Int) : Prop := ∀ i, QaQ l n i
open Classical in
theorem QjO (l : List Int) (n : Int) : (List.range l.length).all (fun i => decide (QaQ l n i)) = decide (Asc l n) := by
 by_cases h : Asc l n
 ·rw [decide_eq_true h, List.all_eq_true]
  intro i _
  exact decide_eq_true (h i)
 ·rw [decide_eq_false h, Bool.eq_false_iff]
  intro hall
  apply h
  intro i x hx
  have hi := (List.getElem?_eq_some_iff.1 hx).1
  have := List.all_eq_true.1 hall i (List.mem_range.2 hi)
  exact (of_decide_eq_true this) x hx
open Classical in
theorem Qdy {l : List Int} {n : Int} {i : Nat} {x : Int} (hl : l.length ≤ 9223372036854775807) (hx : l[i]? = some x) :
  (if decide (x < 0) = true then some true else if decide (n ≤ x) = true then some true else if decide (0 < (i : Int)) = true then (Q9 l (IntKind.i64.wrap ((i : Int) - 1))).bind fun y => some (decide (x ≤ y)) else some false) = some (!decide (QaQ l n i)) := by
 have hi := (List.getElem?_eq_some_iff.1 hx).1
 by_cases h1 : x < 0
 ·rw [if_pos (decide_eq_true h1), decide_eq_false (fun h : QaQ l n i => by have := (h x hx).1; omega)]; rfl
 ·rw [if_neg (by simpa using h1)]
  by_cases h2 : n ≤ x
  ·rw [if_pos (decide_eq_true h2), decide_eq_false (fun h : QaQ l n i => by have := (h x hx).2.1; omega)]; rfl
  ·rw [if_neg (by simpa using h2)]
   by_cases h3 : 0 < i
   ·rw [if_pos (by simpa using h3), J1 (by omega) (by omega)]
    obtain ⟨y, hy⟩ := Qy (xs := l) (i := i - 1) (by omega)
    have e : (i : Int) - 1 = ((i - 1 : Nat) : Int) := by omega
    rw [e, Qq, hy]
    simp only [Option.bind_some]
    congr 1
    by_cases h4 : x ≤ y
    ·rw [decide_eq_true h4, decide_eq_false (fun h : QaQ l n i => by have := (h x hx).2.2 y h3 hy; omega)]; rfl
    ·rw [decide_eq_false h4, decide_eq_true (show QaQ l n i from fun x' hx' => by
      rw [hx] at hx'; cases hx'
      exact ⟨by omega, by omega, fun y' _ hy' => by rw [hy] at hy'; cases hy'; omega⟩)]
     rfl
   ·rw [if_neg (by simpa using h3), decide_eq_true (show QaQ l n i from fun x' hx' => by
      rw [hx] at hx'; cases hx'
      exact ⟨by omega, by omega, fun y' h _ => absurd h h3⟩)]
    rfl
open Classical in
theorem Qdh (l : List Int) (n : Int) (hl : l.length ≤ 9223372036854775807) : J2 l n = some (decide (Asc l n)) := by
 unfold J2
 rw [QhP (r := false) (p := fun i => decide (QaQ l n i))]
 ·rw [QjO]
  by_cases h : Asc l n <;> simp [h]
 ·intro j hj
  obtain ⟨x, hx⟩ := Qy hj
  simp only [Qq, hx, Option.bind_some]
  rw [Qdy hl hx]
  by_cases h : QaQ l n j <;> simp [h]
theorem Qaq {j n : Nat} (hj : j < n) (hn : n ≤ 9223372036854775807) : IntKind.i64.wrap ((j : Int) + 1) = ((j + 1 : Nat) : Int) := by
 rw [J1 (by omega) (by omega)]; omega
inductive WFE : GExpr → Prop
 | mk {op : ByteArray} {N : Int} {kids : List GExpr} : kids.length ≤ 9223372036854775807 → (∀ k ∈ kids, WFE k) → WFE ⟨op, N, kids⟩
structure LenC (c : Cond) : Prop where
 p : c.Pos.length ≤ 9223372036854775807
 n : c.Neg.length ≤ 9223372036854775807
 t : c.Tests.length ≤ 9223372036854775807
 e : ∀ t ∈ c.Tests, WFE t.A ∧ WFE t.B
structure LenO (o : GOp) : Prop where
 nm : o.Name.size ≤ 9223372036854775807
 pre : LenC o.Pre
 ch : o.Changes.length ≤ 9223372036854775807
 whn : ∀ c ∈ o.Changes, LenC c.When
 asg : o.Assigns.length ≤ 9223372036854775807
 val : ∀ a ∈ o.Assigns, WFE a.Value
structure LenG (g : Ground) : Prop where
 a : g.Atoms.length ≤ 9223372036854775807
 f : g.Fluents.length ≤ 9223372036854775807
 i : g.Init.length ≤ 9223372036854775807
 gl : g.Goal.length ≤ 9223372036854775807
 o : g.Ops.length ≤ 9223372036854775807
 goal : ∀ c ∈ g.Goal, LenC c
 op : ∀ o ∈ g.Ops, LenO o
theorem QbA {c : Cond} {t : GTest} (h : t ∈ c.Tests) : SizeOf.sizeOf t.A < SizeOf.sizeOf c ∧ SizeOf.sizeOf t.B < SizeOf.sizeOf c := by
 have h1 := List.sizeOf_lt_of_mem h
 obtain ⟨p, n, ts⟩ := c
 obtain ⟨o, a, b⟩ := t
 simp only [Cond.mk.sizeOf_spec, GTest.mk.sizeOf_spec] at *
 omega
theorem QeO (o : GOp) : SizeOf.sizeOf o.Pre < SizeOf.sizeOf o := by
 cases o
 simp only [GOp.mk.sizeOf_spec]
 omega
theorem QdL {o : GOp} {c : GChange} (h : c ∈ o.Changes) : SizeOf.sizeOf c.When < SizeOf.sizeOf o := by
 have h1 := List.sizeOf_lt_of_mem h
 obtain ⟨nm, k, p, cs, asg⟩ := o
 obtain ⟨w, a, b⟩ := c
 simp only [GOp.mk.sizeOf_spec, GChange.mk.sizeOf_spec] at *
 omega
theorem Qdc {o : GOp} {a : GAssign} (h : a ∈ o.Assigns) : SizeOf.sizeOf a.Value < SizeOf.sizeOf o := by
 have h1 := List.sizeOf_lt_of_mem h
 obtain ⟨nm, k, p, cs, asg⟩ := o
 obtain ⟨f, v⟩ := a
 simp only [GOp.mk.sizeOf_spec, GAssign.mk.sizeOf_spec] at *
 omega
theorem QdQ {g : Ground} {c : Cond} (h : c ∈ g.Goal) : SizeOf.sizeOf c < SizeOf.sizeOf g := by
 have h1 := List.sizeOf_lt_of_mem h
 obtain ⟨a, f, i, gl, o⟩ := g
 simp only [Ground.mk.sizeOf_spec] at *
 omega
theorem QfW {g : Ground} {o : GOp} (h : o ∈ g.Ops) : SizeOf.sizeOf o < SizeOf.sizeOf g := by
 have h1 := List.sizeOf_lt_of_mem h
 obtain ⟨a, f, i, gl, os⟩ := g
 simp only [Ground.mk.sizeOf_spec] at *
 omega
abbrev Qkt : ByteArray := ⟨#[60]⟩
abbrev Qku : ByteArray := ⟨#[60, 61]⟩
abbrev Qkv : ByteArray := ⟨#[61]⟩
def QbQ (n : Int) (t : GTest) : Prop := (t.Op = Qkt ∨ t.Op = Qku ∨ t.Op = Qkv) ∧ RE n t.A ∧ RE n t.B
structure CondOK (na nf : Int) (c : Cond) : Prop where
 p : Asc c.Pos na
 n : Asc c.Neg na
 t : ∀ t ∈ c.Tests, QbQ nf t
open Classical in
theorem Qig {R : GExpr → Option Bool} {n : Int} {t : GTest} (hA : R t.A = some (decide (RE n t.A))) (hB : R t.B = some (decide (RE n t.B))) :
  (if (!decide (t.Op = Qkt)) = true then (if (!decide (t.Op = Qku)) = true then (if (!decide (t.Op = Qkv)) = true then some true
   else ((R t.A).bind fun y => if (!y) = true then some true else ((R t.B).bind fun z => some (!z))))
   else ((R t.A).bind fun y => if (!y) = true then some true else ((R t.B).bind fun z => some (!z))))
   else ((R t.A).bind fun y => if (!y) = true then some true else ((R t.B).bind fun z => some (!z)))) = some (!decide (QbQ n t)) := by
 have hR : ((R t.A).bind fun y => if (!y) = true then some true else ((R t.B).bind fun z => some (!z))) = some (!decide (RE n t.A ∧ RE n t.B)) := by
  rw [hA, hB]
  by_cases a : RE n t.A <;> by_cases b : RE n t.B <;> simp [a, b]
 rw [hR]
 unfold QbQ
 by_cases h1 : t.Op = Qkt
 ·simp [h1]
 ·by_cases h2 : t.Op = Qku
  ·simp [h2]
  ·by_cases h3 : t.Op = Qkv
   ·simp [h3]
   ·simp [h1, h2, h3]
theorem QjT {α : Type} {xs : List α} {p : α → Bool} {q : Nat → Bool} (h : ∀ i x, xs[i]? = some x → q i = p x) : (List.range xs.length).all q = xs.all p := by
 rw [Bool.eq_iff_iff, List.all_eq_true, List.all_eq_true]
 constructor
 ·intro hq x hx
  obtain ⟨i, hi, rfl⟩ := List.getElem_of_mem hx
  rw [← h i _ (List.getElem?_eq_getElem hi)]
  exact hq i (List.mem_range.2 hi)
 ·intro hp i hi
  have hi := List.mem_range.1 hi
  rw [h i _ (List.getElem?_eq_getElem hi)]
  exact hp _ (List.getElem_mem hi)
open Classical in
theorem Ka {α R β : Type} {xs : List α} {B : Nat → Unit → Option (Ctl Unit R)} {r : R} {kr : R → Option β} {k : Unit → Option β} (p : α → Prop) (h : ∀ i x, xs[i]? = some x → B i () = some (if decide (p x) then .next () else .ret r)) :
  ctl (QW B xs.length 0 ()) kr k = if (∀ x ∈ xs, p x) then k () else kr r := by
 rw [QhP (r := r) (p := fun i => match xs[i]? with | some x => decide (p x) | none => true)]
 ·rw [QjT (p := fun x => decide (p x)) (fun i x hx => by simp only [hx])]
  by_cases hall : ∀ x ∈ xs, p x
  ·rw [if_pos hall, if_pos (by rw [List.all_eq_true]; exact fun x hx => decide_eq_true (hall x hx))]
  ·rw [if_neg hall, if_neg (by rw [List.all_eq_true]; exact fun hh => hall fun x hx => of_decide_eq_true (hh x hx))]
 ·intro j hj
  obtain ⟨x, hx⟩ := Qy hj
  rw [h j x hx]
  simp only [hx]
section
variable {fu : Nat} {g : Ground} {c : Cond}
open Classical in
theorem Qga (hl : LenC c) (hs : SizeOf.sizeOf c ≤ fu) : Jn fu g c = some (decide (CondOK (g.Atoms.length : Int) (g.Fluents.length : Int) c)) := by
 unfold Jn
 rw [Ka (r := false) (fun t => QbQ (g.Fluents.length : Int) t)]
 ·rw [Qdh _ _ hl.p, Qdh _ _ hl.n]
  by_cases h : ∀ t ∈ c.Tests, QbQ (g.Fluents.length : Int) t
  ·rw [if_pos h]
   by_cases hp : Asc c.Pos (g.Atoms.length : Int)
   ·by_cases hn : Asc c.Neg (g.Atoms.length : Int)
    ·rw [decide_eq_true (CondOK.mk hp hn h)]; simp [hp, hn]
    ·rw [decide_eq_false (fun q : CondOK _ _ c => hn q.n)]; simp [hp, hn]
   ·rw [decide_eq_false (fun q : CondOK _ _ c => hp q.p)]; simp [hp]
  ·rw [if_neg h, decide_eq_false (fun q : CondOK _ _ c => h q.t)]
 ·intro i t ht
  have hm := List.mem_of_getElem? ht
  have hz := QbA hm
  simp only [Qq, ht, Option.bind_some]
  rw [Qig (R := fun e => Q8 fu e (g.Fluents.length : Int)) (Qb7 fu _ _ (by omega)) (Qb7 fu _ _ (by omega))]
  by_cases q : QbQ (g.Fluents.length : Int) t <;> simp [q]
end
def QcL (x : Int) : Prop := 32 ≤ x ∧ x ≤ 126
def Qec (f : GFluent) : Prop := -1099511627776 ≤ f.Lo ∧ f.Lo ≤ f.Init ∧ f.Init ≤ f.Hi ∧ f.Hi ≤ 1099511627776 ∧ f.Hi - f.Lo < 64
structure ChgOK (na nf : Int) (c : GChange) : Prop where
 r0 : 0 ≤ c.Atom
 r1 : c.Atom < na
 w : CondOK na nf c.When
def Qed (nf : Int) (l : List GAssign) (j : Nat) : Prop := ∀ a, l[j]? = some a → 0 ≤ a.Fluent ∧ a.Fluent < nf ∧ (∀ k b, k < j → l[k]? = some b → b.Fluent ≠ a.Fluent) ∧ RE nf a.Value
structure GOpOK (na nf : Int) (o : GOp) : Prop where
 c0 : 0 ≤ o.Cost
 c1 : o.Cost ≤ 1048576
 nm : o.Name.size ≤ 256
 ch : ∀ x ∈ Kt o.Name, QcL x
 nc : o.Changes.length ≤ 256
 pre : CondOK na nf o.Pre
 chg : ∀ c ∈ o.Changes, ChgOK na nf c
 asg : ∀ j, Qed nf o.Assigns j
structure ValidG (g : Ground) : Prop where
 a : g.Atoms.length ≤ 4096
 f : g.Fluents.length ≤ 4096
 o : g.Ops.length ≤ 4096
 gl : g.Goal.length ≤ 64
 i : Asc g.Init (g.Atoms.length : Int)
 flu : ∀ f ∈ g.Fluents, Qec f
 goal : ∀ c ∈ g.Goal, CondOK (g.Atoms.length : Int) (g.Fluents.length : Int) c
 op : ∀ o ∈ g.Ops, GOpOK (g.Atoms.length : Int) (g.Fluents.length : Int) o
open Classical in
theorem Qjl (s : ByteArray) (hl : s.size ≤ 9223372036854775807) : Yt s = some (decide ((∀ x ∈ Kt s, QcL x) ∧ s.size ≤ 256)) := by
 unfold Yt
 have hb := Qfs s
 rw [show must (decide ((s.size : Int) ≤ 9223372036854775807)) = some () by simp [must]; omega]
 simp only [Option.bind_some]
 rw [show ((s.size : Int)).toNat = (Kt s).length by rw [hb]; simp]
 rw [Ka (r := false) QcL]
 ·by_cases h : ∀ x ∈ Kt s, QcL x
  ·rw [if_pos h]
   congr 1
   exact decide_eq_decide.2 ⟨fun q => ⟨h, by omega⟩, fun q => by have := q.2; omega⟩
  ·rw [if_neg h, decide_eq_false fun q => h q.1]
 ·intro i x hx
  simp only [Qq, hx, Option.bind_some]
  by_cases h1 : x < 32
  ·rw [if_pos (decide_eq_true h1), decide_eq_false (fun q : QcL x => by have := q.1; omega)]; rfl
  ·rw [if_neg (by simpa using h1)]
   by_cases h2 : 126 < x
   ·rw [decide_eq_true h2, decide_eq_false (fun q : QcL x => by have := q.2; omega)]; rfl
   ·rw [decide_eq_false h2, decide_eq_true (show QcL x from ⟨by omega, by omega⟩)]; rfl
section
variable {fu : Nat} {g : Ground}
open Classical in
theorem Qjv {R : Cond → Option Bool} {na nf : Int} {c : GChange} (hR : R c.When = some (decide (CondOK na nf c.When))) :
  (if decide (c.Atom < 0) = true then some true else (if decide (na ≤ c.Atom) = true then some true else ((R c.When).bind fun y => some (!y)))) = some (!decide (ChgOK na nf c)) := by
 by_cases h1 : c.Atom < 0
 ·rw [if_pos (decide_eq_true h1), decide_eq_false (fun q : ChgOK na nf c => by have := q.r0; omega)]; rfl
 ·rw [if_neg (by simpa using h1)]
  by_cases h2 : na ≤ c.Atom
  ·rw [if_pos (decide_eq_true h2), decide_eq_false (fun q : ChgOK na nf c => by have := q.r1; omega)]; rfl
  ·rw [if_neg (by simpa using h2), hR]
   simp only [Option.bind_some]
   congr 2
   exact decide_eq_decide.2 ⟨fun q => ⟨by omega, by omega, q⟩, fun q => q.w⟩
open Classical in
theorem Qi6 {nf : Int} {l : List GAssign} (hn : nf ≤ 9223372036854775806) (hl : l.length ≤ 9223372036854775807) (hs : ∀ a ∈ l, SizeOf.sizeOf a.Value < fu) :
  ctl (QW (R := (Bool)) (fun i101 => fun (l100 : Q0) => (Q9 l (i101 : Int)).bind fun x101 =>
   (if decide (x101.Fluent < 0) then (some true)
   else (if decide (nf ≤ x101.Fluent) then (some true)
   else ((KP l100 x101.Fluent).bind fun q100 =>
   if q100 then (some true)
   else ((Q8 fu x101.Value nf).bind <| fun (y103 : Bool) =>
   some (!y103))))).bind (fun (z102 : Bool) => if z102 then (some (Ctl.ret false))
   else ((JN l100 x101.Fluent true).bind fun m100 =>
   some (Ctl.next m100)))) (l.length) 0 ([] : Q0)) (fun r => some r) (fun (l101 : Q0) => some true) = some (decide (∀ j, Qed nf l j)) := by
 refine Ok.eq (Ok.ctl (fun j (m : Q0) => m.length ≤ j ∧ (∀ k, k < j → Qed nf l k) ∧ ∀ f : Int, (Ki m f = some true ↔ ∃ k b, k < j ∧ l[k]? = some b ∧ b.Fluent = f) ∧ (Ki m f).getD false = (Ki m f).isSome) (fun r => r = false ∧ ∃ j, ¬ Qed nf l j) ⟨by simp, fun k hk => absurd hk (Nat.not_lt_zero k), fun f => ⟨⟨fun h => by simp [Ki] at h, fun ⟨k, b, hk, _⟩ => absurd hk (Nat.not_lt_zero k)⟩, rfl⟩⟩ ?_ ?_ ?_)
 ·rintro j m hj ⟨h1, h2, h3⟩
  obtain ⟨a, ha⟩ := Qy hj
  have ham := List.mem_of_getElem? ha
  simp only [Qq, ha, Option.bind_some]
  have bad : ¬ Qed nf l j → Ok (some (Ctl.ret (S := Q0) false)) (Qia (fun (m : Q0) => m.length ≤ j + 1 ∧ (∀ k, k < j + 1 → Qed nf l k) ∧ ∀ f : Int, (Ki m f = some true ↔ ∃ k b, k < j + 1 ∧ l[k]? = some b ∧ b.Fluent = f) ∧ (Ki m f).getD false = (Ki m f).isSome) (fun r => r = false ∧ ∃ j, ¬ Qed nf l j)) := fun h => Ok.ret ⟨rfl, j, h⟩
  by_cases b1 : a.Fluent < 0
  ·rw [if_pos (decide_eq_true b1)]
   exact bad fun q => by have := (q a ha).1; omega
  rw [if_neg (by simpa using b1)]
  by_cases b2 : nf ≤ a.Fluent
  ·rw [if_pos (decide_eq_true b2)]
   exact bad fun q => by have := (q a ha).2.1; omega
  rw [if_neg (by simpa using b2)]
  have hok : KY a.Fluent := ⟨by omega, by omega⟩
  have hget : KP m a.Fluent = some ((Ki m a.Fluent).getD false) := by unfold KP; rw [if_pos hok]
  rw [hget]
  simp only [Option.bind_some]
  by_cases b3 : Ki m a.Fluent = some true
  ·rw [b3]
   simp only [Option.getD_some, if_true, Option.bind_some]
   obtain ⟨k, b, hk, hb, hf⟩ := (h3 a.Fluent).1.1 b3
   exact bad fun q => (q a ha).2.2.1 k b hk hb hf
  have b3' : (Ki m a.Fluent).getD false = false := by
   cases hq : Ki m a.Fluent with
   | none => rfl
   | some v =>
    cases v with
    | false => rfl
    | true => exact absurd hq b3
  rw [b3']
  simp only [Bool.false_eq_true, if_false, Qb7 fu a.Value nf (hs a ham), Option.bind_some]
  by_cases b4 : RE nf a.Value
  rotate_left
  ·simp only [b4, decide_false, Bool.not_false, if_true]
   exact bad fun q => b4 (q a ha).2.2.2
  simp only [b4, decide_true, Bool.not_true, Bool.false_eq_true, if_false]
  have hput : JN m a.Fluent true = some (YQ m a.Fluent true) := by
   unfold JN
   rw [if_pos ⟨hok, by show m.length < 9223372036854775807; omega⟩]
  rw [hput]
  simp only [Option.bind_some]
  refine Ok.ret ⟨?_, fun k hk => ?_, fun f => ⟨?_, ?_⟩⟩
  ·rw [Qa2]; split <;> omega
  ·by_cases e : k = j
   ·subst e
    intro a' ha'
    rw [ha] at ha'; cases ha'
    exact ⟨by omega, by omega, fun k b hk hb hf => b3 ((h3 a.Fluent).1.2 ⟨k, b, hk, hb, hf⟩), b4⟩
   ·exact h2 k (by omega)
  ·rw [QaU]
   by_cases e : a.Fluent = f
   ·rw [if_pos e]
    exact ⟨fun _ => ⟨j, a, by omega, ha, e⟩, fun _ => rfl⟩
   ·rw [if_neg e, (h3 f).1]
    constructor
    ·rintro ⟨k, b, hk, hb, hf⟩; exact ⟨k, b, by omega, hb, hf⟩
    ·rintro ⟨k, b, hk, hb, hf⟩
     refine ⟨k, b, ?_, hb, hf⟩
     by_cases e2 : k = j
     ·subst e2; rw [ha] at hb; cases hb; exact absurd hf e
     ·omega
  ·rw [QaU]
   by_cases e : a.Fluent = f
   ·rw [if_pos e]; rfl
   ·rw [if_neg e]; exact (h3 f).2
 ·rintro r ⟨rfl, j, hj⟩
  refine Ok.ret ?_
  rw [decide_eq_false fun q => hj (q j)]
 ·rintro m ⟨_, h2, _⟩
  refine Ok.ret ?_
  rw [decide_eq_true]
  intro j a ha
  exact h2 j (List.getElem?_eq_some_iff.1 ha).1 a ha
abbrev nA (g : Ground) : Int := (g.Atoms.length : Int)
abbrev nF (g : Ground) : Int := (g.Fluents.length : Int)
open Classical in
theorem QkR {o : GOp} (hf : g.Fluents.length ≤ 9223372036854775806) (hl : LenO o) (hs : SizeOf.sizeOf o ≤ fu) : Kv fu g o = some (decide (GOpOK (g.Atoms.length : Int) (g.Fluents.length : Int) o)) := by
 have hpre := QeO o
 unfold Kv
 rw [Qjl _ hl.nm, Qga hl.pre (by omega)]
 have no : ∀ {q : Prop}, (GOpOK (g.Atoms.length : Int) (g.Fluents.length : Int) o → False) → some false = some (decide (GOpOK (g.Atoms.length : Int) (g.Fluents.length : Int) o)) := fun h => by rw [decide_eq_false h]
 by_cases c1 : 256 < (o.Changes.length : Int)
 ·rw [if_pos (decide_eq_true c1)]; exact no (q := True) fun h => by have := h.nc; omega
 rw [if_neg (by simpa using c1)]
 by_cases c2 : o.Cost < 0
 ·rw [if_pos (decide_eq_true c2)]; exact no (q := True) fun h => by have := h.c0; omega
 rw [if_neg (by simpa using c2)]
 by_cases c3 : 1048576 < o.Cost
 ·rw [if_pos (decide_eq_true c3)]; exact no (q := True) fun h => by have := h.c1; omega
 rw [if_neg (by simpa using c3)]
 simp only [Option.bind_some]
 by_cases c4 : (∀ x ∈ Kt o.Name, QcL x) ∧ o.Name.size ≤ 256
 rotate_left
 ·rw [decide_eq_false c4]; exact no (q := True) fun h => c4 ⟨h.ch, h.nm⟩
 rw [decide_eq_true c4]
 by_cases c5 : CondOK (g.Atoms.length : Int) (g.Fluents.length : Int) o.Pre
 rotate_left
 ·rw [decide_eq_false c5]; exact no (q := True) fun h => c5 h.pre
 rw [decide_eq_true c5]
 simp only [Bool.not_true, Bool.false_eq_true, if_false, Option.bind_some]
 rw [Ka (r := false) (ChgOK (g.Atoms.length : Int) (g.Fluents.length : Int))]
 ·rw [Qi6 (by omega) hl.asg fun a ha => by have := Qdc ha; omega]
  by_cases c6 : ∀ c ∈ o.Changes, ChgOK (g.Atoms.length : Int) (g.Fluents.length : Int) c
  ·rw [if_pos c6]
   congr 1
   exact decide_eq_decide.2 ⟨fun h => ⟨by omega, by omega, c4.2, c4.1, by omega, c5, c6, h⟩, fun h => h.asg⟩
  ·rw [if_neg c6]; exact no (q := True) fun h => c6 h.chg
 ·intro i c hc
  have hm := List.mem_of_getElem? hc
  have hw := QdL hm
  simp only [Qq, hc, Option.bind_some]
  rw [Qjv (R := fun w => Jn fu g w) (Qga (hl.whn c hm) (by omega))]
  by_cases q : ChgOK (g.Atoms.length : Int) (g.Fluents.length : Int) c <;> simp [q]
open Classical in
theorem QjK (f : GFluent) : Ks f = decide (Qec f) := by
 have h := Qbs f
 unfold Yc at h
 rw [← Zu h]
 by_cases q : Qec f
 ·obtain ⟨a, b, c, d, e⟩ := q
  rw [decide_eq_true (show Qec f from ⟨a, b, c, d, e⟩), J1 (by omega) (by omega)]
  simp [a, b, c, d, e]
 ·rw [decide_eq_false q, Bool.eq_false_iff]
  intro hh
  simp only [Bool.and_eq_true, decide_eq_true_eq] at hh
  obtain ⟨a, b, c, d, e⟩ := hh
  rw [J1 (by omega) (by omega)] at e
  exact q ⟨a, b, c, d, e⟩
theorem QfZ {α : Type} {xs : List α} {B : Nat → Unit → Option (Ctl Unit Int)} {f : α → Bool} (h : ∀ i x, xs[i]? = some x → B i () = some (if f x then .ret (i : Int) else .next ())) :
  ∃ n : Int, ctl (QW B xs.length 0 ()) (fun r => some r) (fun (_ : Unit) => some (-1)) = some n ∧ (0 ≤ n ↔ ∃ x ∈ xs, f x = true) := by
 have : Ok (Go.Pw.ctl (QW B xs.length 0 ()) (fun r => some r) (fun (_ : Unit) => some (-1))) fun n => 0 ≤ n ↔ ∃ x ∈ xs, f x = true := by
  refine Ok.ctl (fun j _ => ∀ (i : Nat) x, i < j → xs[i]? = some x → f x = false) (fun r => 0 ≤ r ∧ ∃ x ∈ xs, f x = true) (fun i x hi => absurd hi (Nat.not_lt_zero i)) ?_ ?_ ?_
  ·intro j _ hj hI
   obtain ⟨x, hx⟩ := Qy hj
   rw [h j x hx]
   cases hf : f x with
   | true => exact Ok.ret ⟨by omega, x, List.mem_of_getElem? hx, hf⟩
   | false =>
    refine Ok.ret fun i y hi hy => ?_
    by_cases e : i = j
    ·subst e; rw [hx] at hy; cases hy; exact hf
    ·exact hI i y (by omega) hy
  ·rintro r ⟨h0, hx⟩
   exact Ok.ret ⟨fun _ => hx, fun _ => h0⟩
  ·rintro _ hI
   refine Ok.ret ⟨fun h => by omega, ?_⟩
   rintro ⟨x, hx, hf⟩
   obtain ⟨i, hi, rfl⟩ := List.getElem_of_mem hx
   have := hI i _ hi (List.getElem?_eq_getElem hi)
   rw [this] at hf; cases hf
 exact this
open Classical in
theorem Y9 (hl : LenG g) (hs : SizeOf.sizeOf g ≤ fu) : J0 fu g = some (decide (ValidG g)) := by
 unfold J0
 by_cases h1 : g.Atoms.length ≤ 4096 ∧ g.Fluents.length ≤ 4096 ∧ g.Ops.length ≤ 4096 ∧ g.Goal.length ≤ 64
 rotate_left
 ·rw [decide_eq_false (fun h : ValidG g => h1 ⟨h.a, h.f, h.o, h.gl⟩), if_pos]
  simp only [Bool.or_eq_true, decide_eq_true_eq]
  omega
 obtain ⟨a1, a2, a3, a4⟩ := h1
 rw [if_neg (by simp only [Bool.or_eq_true, decide_eq_true_eq]; omega)]
 obtain ⟨n1, e1, k1⟩ := QfZ (xs := g.Fluents) (B := fun i300 => fun (_ : Unit) => (Q9 g.Fluents (i300 : Int)).bind fun x393 => if (Ky x393) then (some (Ctl.ret (i300 : Int))) else (some (Ctl.next ()))) (f := fun f => !decide (Qec f)) (by
  intro i x hx
  simp only [Qq, hx, Option.bind_some]
  have := QaG x
  unfold Kz at this
  rw [← Zu this, QjK]
  by_cases q : Qec x <;> simp [q])
 have f1 : QF g.Fluents = some (decide (0 ≤ n1)) := by
  unfold QF Ja
  rw [e1]; rfl
 obtain ⟨n2, e2, k2⟩ := QfZ (xs := g.Goal) (B := fun i100 => fun (_ : Unit) => (Q9 g.Goal (i100 : Int)).bind fun x100 => (Kx fu x100 g).bind <| fun (y100 : Bool) => if y100 then (some (Ctl.ret (i100 : Int))) else (some (Ctl.next ()))) (f := fun c => !decide (CondOK (g.Atoms.length : Int) (g.Fluents.length : Int) c)) (by
  intro i x hx
  have hm := List.mem_of_getElem? hx
  have hz := QdQ hm
  simp only [Qq, hx, Option.bind_some]
  unfold Kx
  rw [Qga (hl.goal x hm) (by omega)]
  by_cases q : CondOK (g.Atoms.length : Int) (g.Fluents.length : Int) x <;> simp [q])
 have f2 : QK fu g.Goal g = some (decide (0 ≤ n2)) := by
  unfold QK Jl
  rw [e2]; rfl
 obtain ⟨n3, e3, k3⟩ := QfZ (xs := g.Ops) (B := fun i100 => fun (_ : Unit) => (Q9 g.Ops (i100 : Int)).bind fun x100 => (Kw fu x100 g).bind <| fun (y100 : Bool) => if y100 then (some (Ctl.ret (i100 : Int))) else (some (Ctl.next ()))) (f := fun o => !decide (GOpOK (g.Atoms.length : Int) (g.Fluents.length : Int) o)) (by
  intro i x hx
  have hm := List.mem_of_getElem? hx
  have hz := QfW hm
  simp only [Qq, hx, Option.bind_some]
  unfold Kw
  rw [QkR (by omega) (hl.op x hm) (by omega)]
  by_cases q : GOpOK (g.Atoms.length : Int) (g.Fluents.length : Int) x <;> simp [q])
 have f3 : QL fu g.Ops g = some (decide (0 ≤ n3)) := by
  unfold QL Jp
  rw [e3]; rfl
 rw [f1, f2, f3, Qdh _ _ hl.i]
 simp only [Option.bind_some]
 have c1 : 0 ≤ n1 ↔ ¬ ∀ f ∈ g.Fluents, Qec f := by rw [k1]; simp
 have c2 : 0 ≤ n2 ↔ ¬ ∀ c ∈ g.Goal, CondOK (g.Atoms.length : Int) (g.Fluents.length : Int) c := by rw [k2]; simp
 have c3 : 0 ≤ n3 ↔ ¬ ∀ o ∈ g.Ops, GOpOK (g.Atoms.length : Int) (g.Fluents.length : Int) o := by rw [k3]; simp
 by_cases b1 : 0 ≤ n1
 ·rw [decide_eq_false (fun h : ValidG g => c1.1 b1 h.flu)]; simp [b1]
 by_cases b0 : Asc g.Init (g.Atoms.length : Int)
 rotate_left
 ·rw [decide_eq_false (fun h : ValidG g => b0 h.i)]; simp [b1, b0]
 by_cases b2 : 0 ≤ n2
 ·rw [decide_eq_false (fun h : ValidG g => c2.1 b2 h.goal)]; simp [b1, b0, b2]
 by_cases b3 : 0 ≤ n3
 ·rw [decide_eq_false (fun h : ValidG g => c3.1 b3 h.op)]; simp [b1, b0, b2, b3]
 rw [decide_eq_true (show ValidG g from ⟨a1, a2, a3, a4, b0, Classical.byContradiction fun h => b1 (c1.2 h), Classical.byContradiction fun h => b2 (c2.2 h), Classical.byContradiction fun h => b3 (c3.2 h)⟩)]
 simp [b1, b0, b2, b3]
end
end Go.Pw
