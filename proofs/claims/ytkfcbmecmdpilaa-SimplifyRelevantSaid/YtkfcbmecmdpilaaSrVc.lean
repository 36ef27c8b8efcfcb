/-
  Valid ground tasks, in plain Lean: operators and tasks.
-/
import Derived.Test.YtkfcbmecmdpilaaSrVb
set_option maxHeartbeats 8000000
set_option linter.unusedSimpArgs false
set_option linter.unusedVariables false
namespace Go.Pw
def ChrOK (x : Int) : Prop := 32 ≤ x ∧ x ≤ 126
def FluOK (f : GFluent) : Prop := -1099511627776 ≤ f.Lo ∧ f.Lo ≤ f.Init ∧ f.Init ≤ f.Hi ∧ f.Hi ≤ 1099511627776 ∧ f.Hi - f.Lo < 64
structure ChgOK (na nf : Int) (c : GChange) : Prop where
  r0 : 0 ≤ c.Atom
  r1 : c.Atom < na
  w : CondOK na nf c.When
/-- The j-th assignment is right, and none before it is of its fluent. -/
def AssAt (nf : Int) (l : List GAssign) (j : Nat) : Prop := ∀ a, l[j]? = some a → 0 ≤ a.Fluent ∧ a.Fluent < nf ∧ (∀ k b, k < j → l[k]? = some b → b.Fluent ≠ a.Fluent) ∧ RE nf a.Value
structure GOpOK (na nf : Int) (o : GOp) : Prop where
  c0 : 0 ≤ o.Cost
  c1 : o.Cost ≤ 1048576
  nm : o.Name.size ≤ 256
  ch : ∀ x ∈ bytesOf o.Name, ChrOK x
  nc : o.Changes.length ≤ 256
  pre : CondOK na nf o.Pre
  chg : ∀ c ∈ o.Changes, ChgOK na nf c
  as : ∀ j, AssAt nf o.Assigns j
structure ValidG (g : Ground) : Prop where
  a : g.Atoms.length ≤ 4096
  f : g.Fluents.length ≤ 4096
  o : g.Ops.length ≤ 4096
  gl : g.Goal.length ≤ 64
  i : Asc g.Init (g.Atoms.length : Int)
  flu : ∀ f ∈ g.Fluents, FluOK f
  goal : ∀ c ∈ g.Goal, CondOK (g.Atoms.length : Int) (g.Fluents.length : Int) c
  op : ∀ o ∈ g.Ops, GOpOK (g.Atoms.length : Int) (g.Fluents.length : Int) o
open Classical in
theorem named_ok (s : ByteArray) (hl : s.size ≤ 9223372036854775807) : ground_named_p s = some (decide ((∀ x ∈ bytesOf s, ChrOK x) ∧ s.size ≤ 256)) := by
  unfold ground_named_p
  have hb := bytesOf_length s
  rw [show must (decide ((s.size : Int) ≤ 9223372036854775807)) = some () by simp [must]; omega]
  simp only [Option.bind_some]
  rw [show ((s.size : Int)).toNat = (bytesOf s).length by rw [hb]; simp]
  rw [ctl_forP (r := false) ChrOK]
  · by_cases h : ∀ x ∈ bytesOf s, ChrOK x
    · rw [if_pos h]
      congr 1
      exact decide_eq_decide.2 ⟨fun q => ⟨h, by omega⟩, fun q => by have := q.2; omega⟩
    · rw [if_neg h, decide_eq_false fun q => h q.1]
  · intro i x hx
    simp only [idx_nat, hx, Option.bind_some]
    by_cases h1 : x < 32
    · rw [if_pos (decide_eq_true h1), decide_eq_false (fun q : ChrOK x => by have := q.1; omega)]; rfl
    · rw [if_neg (by simpa using h1)]
      by_cases h2 : 126 < x
      · rw [decide_eq_true h2, decide_eq_false (fun q : ChrOK x => by have := q.2; omega)]; rfl
      · rw [decide_eq_false h2, decide_eq_true (show ChrOK x from ⟨by omega, by omega⟩)]; rfl
section
variable {fu : Nat} {g : Ground}
open Classical in
theorem chg_body {R : Cond → Option Bool} {na nf : Int} {c : GChange} (hR : R c.When = some (decide (CondOK na nf c.When))) :
    (if decide (c.Atom < 0) = true then some true else (if decide (na ≤ c.Atom) = true then some true else ((R c.When).bind fun y => some (!y)))) = some (!decide (ChgOK na nf c)) := by
  by_cases h1 : c.Atom < 0
  · rw [if_pos (decide_eq_true h1), decide_eq_false (fun q : ChgOK na nf c => by have := q.r0; omega)]; rfl
  · rw [if_neg (by simpa using h1)]
    by_cases h2 : na ≤ c.Atom
    · rw [if_pos (decide_eq_true h2), decide_eq_false (fun q : ChgOK na nf c => by have := q.r1; omega)]; rfl
    · rw [if_neg (by simpa using h2), hR]
      simp only [Option.bind_some]
      congr 2
      exact decide_eq_decide.2 ⟨fun q => ⟨by omega, by omega, q⟩, fun q => q.w⟩
open Classical in
theorem assigns_g {nf : Int} {l : List GAssign} (hn : nf ≤ 9223372036854775806) (hl : l.length ≤ 9223372036854775807) (hs : ∀ a ∈ l, SizeOf.sizeOf a.Value < fu) :
    ctl (forC (R := (Bool)) (fun i101 => fun (l100 : BMap) => (idx l (i101 : Int)).bind fun x101 =>
      (if decide (x101.Fluent < 0) then (some true)
      else (if decide (nf ≤ x101.Fluent) then (some true)
      else ((bmapGet l100 x101.Fluent).bind fun q100 =>
      if q100 then (some true)
      else ((ground_right_p fu x101.Value nf).bind <| fun (y103 : Bool) =>
      some (!y103))))).bind (fun (z102 : Bool) => if z102 then (some (Ctl.ret false))
      else ((bmapPut l100 x101.Fluent true).bind fun m100 =>
      some (Ctl.next m100)))) (l.length) 0 ([] : BMap)) (fun r => some r) (fun (l101 : BMap) => some true) = some (decide (∀ j, AssAt nf l j)) := by
  refine Ok.eq (Ok.ctl (fun j (m : BMap) => m.length ≤ j ∧ (∀ k, k < j → AssAt nf l k) ∧ ∀ f : Int, (bget m f = some true ↔ ∃ k b, k < j ∧ l[k]? = some b ∧ b.Fluent = f) ∧ (bget m f).getD false = (bget m f).isSome) (fun r => r = false ∧ ∃ j, ¬ AssAt nf l j) ⟨by simp, fun k hk => absurd hk (Nat.not_lt_zero k), fun f => ⟨⟨fun h => by simp [bget] at h, fun ⟨k, b, hk, _⟩ => absurd hk (Nat.not_lt_zero k)⟩, rfl⟩⟩ ?_ ?_ ?_)
  · rintro j m hj ⟨h1, h2, h3⟩
    obtain ⟨a, ha⟩ := get_len hj
    have ham := List.mem_of_getElem? ha
    simp only [idx_nat, ha, Option.bind_some]
    have bad : ¬ AssAt nf l j → Ok (some (Ctl.ret (S := BMap) false)) (CtlP (fun (m : BMap) => m.length ≤ j + 1 ∧ (∀ k, k < j + 1 → AssAt nf l k) ∧ ∀ f : Int, (bget m f = some true ↔ ∃ k b, k < j + 1 ∧ l[k]? = some b ∧ b.Fluent = f) ∧ (bget m f).getD false = (bget m f).isSome) (fun r => r = false ∧ ∃ j, ¬ AssAt nf l j)) := fun h => Ok.ret ⟨rfl, j, h⟩
    by_cases b1 : a.Fluent < 0
    · rw [if_pos (decide_eq_true b1)]
      exact bad fun q => by have := (q a ha).1; omega
    rw [if_neg (by simpa using b1)]
    by_cases b2 : nf ≤ a.Fluent
    · rw [if_pos (decide_eq_true b2)]
      exact bad fun q => by have := (q a ha).2.1; omega
    rw [if_neg (by simpa using b2)]
    have hok : i64ok a.Fluent := ⟨by omega, by omega⟩
    have hget : bmapGet m a.Fluent = some ((bget m a.Fluent).getD false) := by unfold bmapGet; rw [if_pos hok]
    rw [hget]
    simp only [Option.bind_some]
    by_cases b3 : bget m a.Fluent = some true
    · rw [b3]
      simp only [Option.getD_some, if_true, Option.bind_some]
      obtain ⟨k, b, hk, hb, hf⟩ := (h3 a.Fluent).1.1 b3
      exact bad fun q => (q a ha).2.2.1 k b hk hb hf
    have b3' : (bget m a.Fluent).getD false = false := by
      cases hq : bget m a.Fluent with
      | none => rfl
      | some v =>
        cases v with
        | false => rfl
        | true => exact absurd hq b3
    rw [b3']
    simp only [Bool.false_eq_true, if_false, right_ok fu a.Value nf (hs a ham), Option.bind_some]
    by_cases b4 : RE nf a.Value
    rotate_left
    · simp only [b4, decide_false, Bool.not_false, if_true]
      exact bad fun q => b4 (q a ha).2.2.2
    simp only [b4, decide_true, Bool.not_true, Bool.false_eq_true, if_false]
    have hput : bmapPut m a.Fluent true = some (bput m a.Fluent true) := by
      unfold bmapPut
      rw [if_pos ⟨hok, by show m.length < 9223372036854775807; omega⟩]
    rw [hput]
    simp only [Option.bind_some]
    refine Ok.ret ⟨?_, fun k hk => ?_, fun f => ⟨?_, ?_⟩⟩
    · rw [bput_length]; split <;> omega
    · by_cases e : k = j
      · subst e
        intro a' ha'
        rw [ha] at ha'; cases ha'
        exact ⟨by omega, by omega, fun k b hk hb hf => b3 ((h3 a.Fluent).1.2 ⟨k, b, hk, hb, hf⟩), b4⟩
      · exact h2 k (by omega)
    · rw [bget_put]
      by_cases e : a.Fluent = f
      · rw [if_pos e]
        exact ⟨fun _ => ⟨j, a, by omega, ha, e⟩, fun _ => rfl⟩
      · rw [if_neg e, (h3 f).1]
        constructor
        · rintro ⟨k, b, hk, hb, hf⟩; exact ⟨k, b, by omega, hb, hf⟩
        · rintro ⟨k, b, hk, hb, hf⟩
          refine ⟨k, b, ?_, hb, hf⟩
          by_cases e2 : k = j
          · subst e2; rw [ha] at hb; cases hb; exact absurd hf e
          · omega
    · rw [bget_put]
      by_cases e : a.Fluent = f
      · rw [if_pos e]; rfl
      · rw [if_neg e]; exact (h3 f).2
  · rintro r ⟨rfl, j, hj⟩
    refine Ok.ret ?_
    rw [decide_eq_false fun q => hj (q j)]
  · rintro m ⟨_, h2, _⟩
    refine Ok.ret ?_
    rw [decide_eq_true]
    intro j a ha
    exact h2 j (List.getElem?_eq_some_iff.1 ha).1 a ha
open Classical in
theorem assigns_r {l : List GAssign} (hl : l.length ≤ 9223372036854775807) (hs : ∀ a ∈ l, SizeOf.sizeOf a.Value < fu) :
    ctl (whileC (R := (Bool)) (fun (i104 : Int) => if decide (i104 < (l.length : Int)) then ((idx l i104).bind fun x102 =>
      (if decide (x102.Fluent < 0) then (some true)
      else (if decide ((g.Fluents.length : Int) ≤ x102.Fluent) then (some true)
      else ((ref18_Expr_p fu g x102.Value).bind <| fun (y102 : Bool) =>
      some (!y102)))).bind (fun (z103 : Bool) => if z103 then (some (Ctl.ret false))
      else (ctl (whileC (R := (Bool)) (fun (k100 : Int) => if decide (k100 < i104) then ((idx l k100).bind fun x103 =>
      if decide (x103.Fluent = x102.Fluent) then (some (Ctl.ret false))
      else (some (Ctl.next (IntKind.i64.wrap (k100 + 1)))))
      else (some (Ctl.brk k100))) 0) (fun r => some (Ctl.ret r)) (fun (k101 : Int) => some (Ctl.next (IntKind.i64.wrap (i104 + 1)))))))
      else (some (Ctl.brk i104))) 0) (fun r => some r) (fun (i105 : Int) => some true) = some (decide (∀ j, AssAt (g.Fluents.length : Int) l j)) := by
  rw [while_all (r := false) (n := l.length) (p := fun j => decide (AssAt (g.Fluents.length : Int) l j))]
  · by_cases h : ∀ j, AssAt (g.Fluents.length : Int) l j
    · rw [decide_eq_true h, if_pos]
      rw [List.all_eq_true]
      exact fun j _ => decide_eq_true (h j)
    · rw [decide_eq_false h, if_neg]
      rw [List.all_eq_true]
      intro hall
      apply h
      intro j a ha
      exact (of_decide_eq_true (hall j (List.mem_range.2 (List.getElem?_eq_some_iff.1 ha).1))) a ha
  · intro j hj
    obtain ⟨a, ha⟩ := get_len hj
    have ham := List.mem_of_getElem? ha
    rw [if_pos (decide_eq_true (by omega))]
    simp only [idx_nat, ha, Option.bind_some]
    by_cases b1 : a.Fluent < 0
    · rw [if_pos (decide_eq_true b1), decide_eq_false (fun q : AssAt _ l j => by have := (q a ha).1; omega)]; rfl
    rw [if_neg (by simpa using b1)]
    by_cases b2 : (g.Fluents.length : Int) ≤ a.Fluent
    · rw [if_pos (decide_eq_true b2), decide_eq_false (fun q : AssAt _ l j => by have := (q a ha).2.1; omega)]; rfl
    rw [if_neg (by simpa using b2), expr_ok fu g _ (hs a ham)]
    simp only [Option.bind_some]
    by_cases b4 : RE (g.Fluents.length : Int) a.Value
    rotate_left
    · rw [decide_eq_false b4, decide_eq_false (fun q : AssAt _ l j => b4 (q a ha).2.2.2)]; rfl
    simp only [b4, decide_true, Bool.not_true, Bool.false_eq_true, if_false]
    rw [while_all (r := false) (n := j) (p := fun k => decide (∀ b, l[k]? = some b → b.Fluent ≠ a.Fluent))]
    · rw [wrap_succ hj hl]
      by_cases h : AssAt (g.Fluents.length : Int) l j
      · rw [decide_eq_true h, if_pos]
        · rfl
        · rw [List.all_eq_true]
          intro k hk
          exact decide_eq_true fun b hb => (h a ha).2.2.1 k b (List.mem_range.1 hk) hb
      · rw [decide_eq_false h, if_neg]
        · rfl
        · rw [List.all_eq_true]
          intro hall
          apply h
          intro a' ha'
          rw [ha] at ha'; cases ha'
          exact ⟨by omega, by omega, fun k b hk hb => (of_decide_eq_true (hall k (List.mem_range.2 hk))) b hb, b4⟩
    · intro k hk
      obtain ⟨b, hb⟩ := get_len (xs := l) (i := k) (by omega)
      rw [if_pos (decide_eq_true (by omega))]
      simp only [idx_nat, hb, Option.bind_some]
      rw [wrap_succ hk (by omega)]
      by_cases e : b.Fluent = a.Fluent
      · rw [if_pos (decide_eq_true e)]; simp [e]
      · rw [if_neg (by simpa using e)]; simp [e]
    · rw [if_neg (by simp)]
  · rw [if_neg (by simp)]
open Classical in
theorem op_ok {o : GOp} (hf : g.Fluents.length ≤ 9223372036854775806) (hl : LenO o) (hs : SizeOf.sizeOf o ≤ fu) : ground_operator_p fu g o = some (decide (GOpOK (g.Atoms.length : Int) (g.Fluents.length : Int) o)) := by
  have hpre := pre_size o
  unfold ground_operator_p
  rw [named_ok _ hl.nm, cond_ok hl.pre (by omega)]
  have no : ∀ {q : Prop}, (GOpOK (g.Atoms.length : Int) (g.Fluents.length : Int) o → False) → some false = some (decide (GOpOK (g.Atoms.length : Int) (g.Fluents.length : Int) o)) := fun h => by rw [decide_eq_false h]
  by_cases c1 : 256 < (o.Changes.length : Int)
  · rw [if_pos (decide_eq_true c1)]; exact no (q := True) fun h => by have := h.nc; omega
  rw [if_neg (by simpa using c1)]
  by_cases c2 : o.Cost < 0
  · rw [if_pos (decide_eq_true c2)]; exact no (q := True) fun h => by have := h.c0; omega
  rw [if_neg (by simpa using c2)]
  by_cases c3 : 1048576 < o.Cost
  · rw [if_pos (decide_eq_true c3)]; exact no (q := True) fun h => by have := h.c1; omega
  rw [if_neg (by simpa using c3)]
  simp only [Option.bind_some]
  by_cases c4 : (∀ x ∈ bytesOf o.Name, ChrOK x) ∧ o.Name.size ≤ 256
  rotate_left
  · rw [decide_eq_false c4]; exact no (q := True) fun h => c4 ⟨h.ch, h.nm⟩
  rw [decide_eq_true c4]
  by_cases c5 : CondOK (g.Atoms.length : Int) (g.Fluents.length : Int) o.Pre
  rotate_left
  · rw [decide_eq_false c5]; exact no (q := True) fun h => c5 h.pre
  rw [decide_eq_true c5]
  simp only [Bool.not_true, Bool.false_eq_true, if_false, Option.bind_some]
  rw [ctl_forP (r := false) (ChgOK (g.Atoms.length : Int) (g.Fluents.length : Int))]
  · rw [assigns_g (by omega) hl.as fun a ha => by have := value_size ha; omega]
    by_cases c6 : ∀ c ∈ o.Changes, ChgOK (g.Atoms.length : Int) (g.Fluents.length : Int) c
    · rw [if_pos c6]
      congr 1
      exact decide_eq_decide.2 ⟨fun h => ⟨by omega, by omega, c4.2, c4.1, by omega, c5, c6, h⟩, fun h => h.as⟩
    · rw [if_neg c6]; exact no (q := True) fun h => c6 h.chg
  · intro i c hc
    have hm := List.mem_of_getElem? hc
    have hw := when_size hm
    simp only [idx_nat, hc, Option.bind_some]
    rw [chg_body (R := fun w => ground_condition_p fu g w) (cond_ok (hl.whn c hm) (by omega))]
    by_cases q : ChgOK (g.Atoms.length : Int) (g.Fluents.length : Int) c <;> simp [q]
open Classical in
theorem refOp_ok {o : GOp} (hl : LenO o) (hs : SizeOf.sizeOf o ≤ fu) : ref18_operator_p fu g o = some (decide (GOpOK (g.Atoms.length : Int) (g.Fluents.length : Int) o)) := by
  have hpre := pre_size o
  have hb := bytesOf_length o.Name
  have hnm := hl.nm
  unfold ref18_operator_p
  rw [refCond_ok hl.pre (by omega)]
  have no : ∀ {q : Prop}, (GOpOK (g.Atoms.length : Int) (g.Fluents.length : Int) o → False) → some false = some (decide (GOpOK (g.Atoms.length : Int) (g.Fluents.length : Int) o)) := fun h => by rw [decide_eq_false h]
  by_cases c2 : o.Cost < 0
  · rw [if_pos (decide_eq_true c2)]; exact no (q := True) fun h => by have := h.c0; omega
  rw [if_neg (by simpa using c2)]
  by_cases c3 : 1048576 < o.Cost
  · rw [if_pos (decide_eq_true c3)]; exact no (q := True) fun h => by have := h.c1; omega
  rw [if_neg (by simpa using c3)]
  by_cases c0 : 256 < (o.Name.size : Int)
  · rw [if_pos (decide_eq_true c0)]; exact no (q := True) fun h => by have := h.nm; omega
  rw [if_neg (by simpa using c0)]
  by_cases c1 : 256 < (o.Changes.length : Int)
  · rw [if_pos (decide_eq_true c1)]; exact no (q := True) fun h => by have := h.nc; omega
  rw [if_neg (by simpa using c1)]
  simp only [Option.bind_some]
  by_cases c5 : CondOK (g.Atoms.length : Int) (g.Fluents.length : Int) o.Pre
  rotate_left
  · rw [decide_eq_false c5]; exact no (q := True) fun h => c5 h.pre
  rw [decide_eq_true c5]
  simp only [Bool.not_true, Bool.false_eq_true, if_false]
  rw [ctl_whileP (xs := bytesOf o.Name) (r := false) ChrOK]
  rotate_left
  · intro i x hx
    have hi := (List.getElem?_eq_some_iff.1 hx).1
    rw [if_pos (decide_eq_true (by omega))]
    simp only [idx_nat, hx, Option.bind_some]
    rw [wrap_succ (n := o.Name.size) (by omega) (by omega)]
    by_cases h1 : x < 32
    · rw [if_pos (decide_eq_true h1), decide_eq_false (fun q : ChrOK x => by have := q.1; omega)]; rfl
    · rw [if_neg (by simpa using h1)]
      by_cases h2 : 126 < x
      · rw [decide_eq_true h2, decide_eq_false (fun q : ChrOK x => by have := q.2; omega)]; rfl
      · rw [decide_eq_false h2, decide_eq_true (show ChrOK x from ⟨by omega, by omega⟩)]; rfl
  · rw [hb, if_neg (by simp)]
  by_cases c4 : ∀ x ∈ bytesOf o.Name, ChrOK x
  rotate_left
  · rw [if_neg c4]; exact no (q := True) fun h => c4 h.ch
  rw [if_pos c4]
  rw [ctl_whileP (xs := o.Changes) (r := false) (ChgOK (g.Atoms.length : Int) (g.Fluents.length : Int))]
  rotate_left
  · intro i c hc
    have hm := List.mem_of_getElem? hc
    have hi := (List.getElem?_eq_some_iff.1 hc).1
    have hw := when_size hm
    rw [if_pos (decide_eq_true (by omega))]
    simp only [idx_nat, hc, Option.bind_some]
    rw [chg_body (R := fun w => ref18_Cond_p fu g w) (refCond_ok (hl.whn c hm) (by omega)), wrap_succ hi hl.ch]
    by_cases q : ChgOK (g.Atoms.length : Int) (g.Fluents.length : Int) c <;> simp [q]
  · rw [if_neg (by simp)]
  rw [assigns_r hl.as fun a ha => by have := value_size ha; omega]
  by_cases c6 : ∀ c ∈ o.Changes, ChgOK (g.Atoms.length : Int) (g.Fluents.length : Int) c
  · rw [if_pos c6]
    congr 1
    exact decide_eq_decide.2 ⟨fun h => ⟨by omega, by omega, by omega, c4, by omega, c5, c6, h⟩, fun h => h.as⟩
  · rw [if_neg c6]; exact no (q := True) fun h => c6 h.chg
open Classical in
theorem flu_dec (f : GFluent) : ground_fluent_t f = decide (FluOK f) := by
  have h := ground_fluent_tot f
  unfold ground_fluent_p at h
  rw [← Zu h]
  by_cases q : FluOK f
  · obtain ⟨a, b, c, d, e⟩ := q
    rw [decide_eq_true (show FluOK f from ⟨a, b, c, d, e⟩), wrap_id (by omega) (by omega)]
    simp [a, b, c, d, e]
  · rw [decide_eq_false q, Bool.eq_false_iff]
    intro hh
    simp only [Bool.and_eq_true, decide_eq_true_eq] at hh
    obtain ⟨a, b, c, d, e⟩ := hh
    rw [wrap_id (by omega) (by omega)] at e
    exact q ⟨a, b, c, d, e⟩
/-- The first place of a row that a test takes. -/
theorem find_ok {α : Type} {xs : List α} {B : Nat → Unit → Option (Ctl Unit Int)} {f : α → Bool} (h : ∀ i x, xs[i]? = some x → B i () = some (if f x then .ret (i : Int) else .next ())) :
    ∃ n : Int, ctl (forC B xs.length 0 ()) (fun r => some r) (fun (_ : Unit) => some (-1)) = some n ∧ (0 ≤ n ↔ ∃ x ∈ xs, f x = true) := by
  have : Ok (Go.Pw.ctl (forC B xs.length 0 ()) (fun r => some r) (fun (_ : Unit) => some (-1))) fun n => 0 ≤ n ↔ ∃ x ∈ xs, f x = true := by
    refine Ok.ctl (fun j _ => ∀ (i : Nat) x, i < j → xs[i]? = some x → f x = false) (fun r => 0 ≤ r ∧ ∃ x ∈ xs, f x = true) (fun i x hi => absurd hi (Nat.not_lt_zero i)) ?_ ?_ ?_
    · intro j _ hj hI
      obtain ⟨x, hx⟩ := get_len hj
      rw [h j x hx]
      cases hf : f x with
      | true => exact Ok.ret ⟨by omega, x, List.mem_of_getElem? hx, hf⟩
      | false =>
        refine Ok.ret fun i y hi hy => ?_
        by_cases e : i = j
        · subst e; rw [hx] at hy; cases hy; exact hf
        · exact hI i y (by omega) hy
    · rintro r ⟨h0, hx⟩
      exact Ok.ret ⟨fun _ => hx, fun _ => h0⟩
    · rintro _ hI
      refine Ok.ret ⟨fun h => by omega, ?_⟩
      rintro ⟨x, hx, hf⟩
      obtain ⟨i, hi, rfl⟩ := List.getElem_of_mem hx
      have := hI i _ hi (List.getElem?_eq_getElem hi)
      rw [this] at hf; cases hf
  exact this
open Classical in
theorem valid_ok (hl : LenG g) (hs : SizeOf.sizeOf g ≤ fu) : ground_Valid_p fu g = some (decide (ValidG g)) := by
  unfold ground_Valid_p
  by_cases h1 : g.Atoms.length ≤ 4096 ∧ g.Fluents.length ≤ 4096 ∧ g.Ops.length ≤ 4096 ∧ g.Goal.length ≤ 64
  rotate_left
  · rw [decide_eq_false (fun h : ValidG g => h1 ⟨h.a, h.f, h.o, h.gl⟩), if_pos]
    simp only [Bool.or_eq_true, decide_eq_true_eq]
    omega
  obtain ⟨a1, a2, a3, a4⟩ := h1
  rw [if_neg (by simp only [Bool.or_eq_true, decide_eq_true_eq]; omega)]
  -- fluents
  obtain ⟨n1, e1, k1⟩ := find_ok (xs := g.Fluents) (B := fun i300 => fun (_ : Unit) => (idx g.Fluents (i300 : Int)).bind fun x393 => if (ground_Valid_c1_t x393) then (some (Ctl.ret (i300 : Int))) else (some (Ctl.next ()))) (f := fun f => !decide (FluOK f)) (by
    intro i x hx
    simp only [idx_nat, hx, Option.bind_some]
    have := ground_Valid_c1_tot x
    unfold ground_Valid_c1_p at this
    rw [← Zu this, flu_dec]
    by_cases q : FluOK x <;> simp [q])
  have f1 : api_GFluent__f52_p g.Fluents = some (decide (0 ≤ n1)) := by
    unfold api_GFluent__f52_p api_GFluent__f52_87_p
    rw [e1]; rfl
  -- the goal
  obtain ⟨n2, e2, k2⟩ := find_ok (xs := g.Goal) (B := fun i100 => fun (_ : Unit) => (idx g.Goal (i100 : Int)).bind fun x100 => (ground_Valid_c2_p fu x100 g).bind <| fun (y100 : Bool) => if y100 then (some (Ctl.ret (i100 : Int))) else (some (Ctl.next ()))) (f := fun c => !decide (CondOK (g.Atoms.length : Int) (g.Fluents.length : Int) c)) (by
    intro i x hx
    have hm := List.mem_of_getElem? hx
    have hz := goal_size hm
    simp only [idx_nat, hx, Option.bind_some]
    unfold ground_Valid_c2_p
    rw [cond_ok (hl.goal x hm) (by omega)]
    by_cases q : CondOK (g.Atoms.length : Int) (g.Fluents.length : Int) x <;> simp [q])
  have f2 : api_Cond__f56_p fu g.Goal g = some (decide (0 ≤ n2)) := by
    unfold api_Cond__f56_p api_Cond__f56_88_p
    rw [e2]; rfl
  -- the operators
  obtain ⟨n3, e3, k3⟩ := find_ok (xs := g.Ops) (B := fun i100 => fun (_ : Unit) => (idx g.Ops (i100 : Int)).bind fun x100 => (ground_Valid_c3_p fu x100 g).bind <| fun (y100 : Bool) => if y100 then (some (Ctl.ret (i100 : Int))) else (some (Ctl.next ()))) (f := fun o => !decide (GOpOK (g.Atoms.length : Int) (g.Fluents.length : Int) o)) (by
    intro i x hx
    have hm := List.mem_of_getElem? hx
    have hz := op_size hm
    simp only [idx_nat, hx, Option.bind_some]
    unfold ground_Valid_c3_p
    rw [op_ok (by omega) (hl.op x hm) (by omega)]
    by_cases q : GOpOK (g.Atoms.length : Int) (g.Fluents.length : Int) x <;> simp [q])
  have f3 : api_GOp__f59_p fu g.Ops g = some (decide (0 ≤ n3)) := by
    unfold api_GOp__f59_p api_GOp__f59_90_p
    rw [e3]; rfl
  rw [f1, f2, f3, indices_ok _ _ hl.i]
  simp only [Option.bind_some]
  have c1 : 0 ≤ n1 ↔ ¬ ∀ f ∈ g.Fluents, FluOK f := by rw [k1]; simp
  have c2 : 0 ≤ n2 ↔ ¬ ∀ c ∈ g.Goal, CondOK (g.Atoms.length : Int) (g.Fluents.length : Int) c := by rw [k2]; simp
  have c3 : 0 ≤ n3 ↔ ¬ ∀ o ∈ g.Ops, GOpOK (g.Atoms.length : Int) (g.Fluents.length : Int) o := by rw [k3]; simp
  by_cases b1 : 0 ≤ n1
  · rw [decide_eq_false (fun h : ValidG g => c1.1 b1 h.flu)]; simp [b1]
  by_cases b0 : Asc g.Init (g.Atoms.length : Int)
  rotate_left
  · rw [decide_eq_false (fun h : ValidG g => b0 h.i)]; simp [b1, b0]
  by_cases b2 : 0 ≤ n2
  · rw [decide_eq_false (fun h : ValidG g => c2.1 b2 h.goal)]; simp [b1, b0, b2]
  by_cases b3 : 0 ≤ n3
  · rw [decide_eq_false (fun h : ValidG g => c3.1 b3 h.op)]; simp [b1, b0, b2, b3]
  rw [decide_eq_true (show ValidG g from ⟨a1, a2, a3, a4, b0, Classical.byContradiction fun h => b1 (c1.2 h), Classical.byContradiction fun h => b2 (c2.2 h), Classical.byContradiction fun h => b3 (c3.2 h)⟩)]
  simp [b1, b0, b2, b3]
open Classical in
theorem refValid_ok (hl : LenG g) (hs : SizeOf.sizeOf g ≤ fu) : ref18_Valid_p fu g = some (decide (ValidG g)) := by
  unfold ref18_Valid_p
  have no : ∀ {q : Prop}, (ValidG g → False) → some false = some (decide (ValidG g)) := fun h => by rw [decide_eq_false h]
  by_cases a1 : 4096 < (g.Atoms.length : Int)
  · rw [if_pos (decide_eq_true a1)]; exact no (q := True) fun h => by have := h.a; omega
  rw [if_neg (by simpa using a1)]
  by_cases a2 : 4096 < (g.Fluents.length : Int)
  · rw [if_pos (decide_eq_true a2)]; exact no (q := True) fun h => by have := h.f; omega
  rw [if_neg (by simpa using a2)]
  by_cases a3 : 4096 < (g.Ops.length : Int)
  · rw [if_pos (decide_eq_true a3)]; exact no (q := True) fun h => by have := h.o; omega
  rw [if_neg (by simpa using a3)]
  by_cases a4 : 64 < (g.Goal.length : Int)
  · rw [if_pos (decide_eq_true a4)]; exact no (q := True) fun h => by have := h.gl; omega
  rw [if_neg (by simpa using a4), ascending_ok _ _ hl.i]
  simp only [Option.bind_some]
  by_cases b0 : Asc g.Init (g.Atoms.length : Int)
  rotate_left
  · rw [decide_eq_false b0]; exact no (q := True) fun h => b0 h.i
  simp only [b0, decide_true, Bool.not_true, Bool.false_eq_true, if_false]
  rw [ctl_whileP (xs := g.Fluents) (r := false) FluOK]
  rotate_left
  · intro i f hf
    have hi := (List.getElem?_eq_some_iff.1 hf).1
    rw [if_pos (decide_eq_true (by omega))]
    simp only [idx_nat, hf, Option.bind_some]
    rw [wrap_succ hi hl.f]
    by_cases q : FluOK f
    · obtain ⟨q1, q2, q3, q4, q5⟩ := q
      rw [decide_eq_true (show FluOK f from ⟨q1, q2, q3, q4, q5⟩), if_neg]
      · rfl
      · rw [wrap_id (by omega) (by omega)]
        simp only [Bool.or_eq_true, decide_eq_true_eq]
        omega
    · rw [decide_eq_false q, if_pos]
      · rfl
      · simp only [Bool.or_eq_true, decide_eq_true_eq]
        apply Classical.byContradiction
        intro hh
        apply q
        have h1 : -1099511627776 ≤ f.Lo := by omega
        have h2 : f.Lo ≤ f.Init := by omega
        have h3 : f.Init ≤ f.Hi := by omega
        have h4 : f.Hi ≤ 1099511627776 := by omega
        rw [wrap_id (n := f.Hi - f.Lo) (by omega) (by omega)] at hh
        exact ⟨h1, h2, h3, h4, by omega⟩
  · rw [if_neg (by simp)]
  by_cases b1 : ∀ f ∈ g.Fluents, FluOK f
  rotate_left
  · rw [if_neg b1]; exact no (q := True) fun h => b1 h.flu
  rw [if_pos b1, ctl_whileP (xs := g.Goal) (r := false) (CondOK (g.Atoms.length : Int) (g.Fluents.length : Int))]
  rotate_left
  · intro i c hc
    have hm := List.mem_of_getElem? hc
    have hi := (List.getElem?_eq_some_iff.1 hc).1
    have hz := goal_size hm
    rw [if_pos (decide_eq_true (by omega))]
    simp only [idx_nat, hc, Option.bind_some, refCond_ok (hl.goal c hm) (show SizeOf.sizeOf c ≤ fu by omega)]
    rw [wrap_succ hi hl.gl]
    by_cases q : CondOK (g.Atoms.length : Int) (g.Fluents.length : Int) c <;> simp [q]
  · rw [if_neg (by simp)]
  by_cases b2 : ∀ c ∈ g.Goal, CondOK (g.Atoms.length : Int) (g.Fluents.length : Int) c
  rotate_left
  · rw [if_neg b2]; exact no (q := True) fun h => b2 h.goal
  rw [if_pos b2, ctl_whileP (xs := g.Ops) (r := false) (GOpOK (g.Atoms.length : Int) (g.Fluents.length : Int))]
  rotate_left
  · intro i o ho
    have hm := List.mem_of_getElem? ho
    have hi := (List.getElem?_eq_some_iff.1 ho).1
    have hz := op_size hm
    rw [if_pos (decide_eq_true (by omega))]
    simp only [idx_nat, ho, Option.bind_some, refOp_ok (hl.op o hm) (show SizeOf.sizeOf o ≤ fu by omega)]
    rw [wrap_succ hi hl.o]
    by_cases q : GOpOK (g.Atoms.length : Int) (g.Fluents.length : Int) o <;> simp [q]
  · rw [if_neg (by simp)]
  by_cases b3 : ∀ o ∈ g.Ops, GOpOK (g.Atoms.length : Int) (g.Fluents.length : Int) o
  rotate_left
  · rw [if_neg b3]; exact no (q := True) fun h => b3 h.op
  rw [if_pos b3, decide_eq_true (show ValidG g from ⟨by omega, by omega, by omega, by omega, b0, b1, b2, b3⟩)]
end
end Go.Pw
