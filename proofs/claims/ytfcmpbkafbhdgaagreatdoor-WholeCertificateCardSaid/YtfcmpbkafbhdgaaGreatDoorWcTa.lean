/- -/
import Derived.Test.YtfcmpbkafbhdgaaGreatDoorWcP
import Derived.Test.YtfcmpbkafbhdgaaGreatDoorBB
set_option maxHeartbeats 8000000
set_option linter.unusedSimpArgs false
set_option linter.unusedVariables false
namespace Go.Pw
/-! from PwWaV -/
theorem Ql {α : Type} {xs : List α} {i : Nat} (h : i < xs.length) : ∃ y, xs[i]? = some y := ⟨xs[i], by simp [h]⟩
/-! from PwWaE -/
/-! from PwWaR -/
theorem Qc8 {α β : Type} (xs : List α) (g : α → List β) {B : Nat → List β → Option (List β)} {s0 : List β} (h : ∀ i y s, xs[i]? = some y → s = s0 ++ (xs.take i).flatMap g → B i s = some (s ++ g y)) :
  forS B xs.length 0 s0 = some (s0 ++ xs.flatMap g) := by
 refine Ok.eq (J5 (fun i s => s = s0 ++ (xs.take i).flatMap g) (by simp) ?_ (fun s hs => by rw [hs, List.take_length]))
 intro i s hi hs
 obtain ⟨y, hy⟩ := Ql hi
 refine QiB (h i y s hy hs) ?_
 rw [hs, List.append_assoc]
 congr 1
 rw [List.take_add_one, hy]
 simp [List.flatMap_append]
theorem Qix {β : Type} (n : Nat) (g : Nat → List β) {B : Nat → List β → Option (List β)} {s0 : List β} (h : ∀ i s, i < n → s = s0 ++ (List.range i).flatMap g → B i s = some (s ++ g i)) :
  forS B n 0 s0 = some (s0 ++ (List.range n).flatMap g) := by
 refine Ok.eq (J5 (fun i s => s = s0 ++ (List.range i).flatMap g) (by simp) ?_ (fun s hs => hs))
 intro i s hi hs
 refine QiB (h i s hi hs) ?_
 rw [hs, List.append_assoc]
 congr 1
 rw [List.range_succ]
 simp [List.flatMap_append]
theorem Qdy {α β : Type} {g : α → List β} {M : Nat} : ∀ {xs : List α}, (∀ x ∈ xs, (g x).length ≤ M) → (xs.flatMap g).length ≤ xs.length * M
 | [], _ => by simp
 | x :: xs, h => by
  rw [List.flatMap_cons, List.length_append, List.length_cons, Nat.add_mul, Nat.one_mul]
  have h1 := h x (by simp)
  have h2 := Qdy (xs := xs) (g := g) (M := M) fun y hy => h y (by simp [hy])
  omega
theorem Qd7 {α β : Type} {g : α → β} (xs : List α) : xs.flatMap (fun y => [g y]) = xs.map g := by
 induction xs with
 | nil => rfl
 | cons x xs ih => simp [ih]
/-! from PwWaD -/
/-! from PwWaH -/
def QlF (Q : List Nat) : List Int := Q.map Int.ofNat
structure QS (n : Nat) (Q : List Nat) (ws : List Bool) (ls : List Int) : Prop where
 l : ls = QlF Q
 nd : Q.Nodup
 lt : ∀ q ∈ Q, q < n
 wl : ws.length = n
 w : ∀ j, j < n → ws[j]? = some (decide (j ∈ Q))
/-! from PwWaGd -/
def InR (vars : List Int) (x : Fact) : Prop := 0 ≤ x.Var ∧ x.Var < (vars.length : Int) ∧ 0 ≤ x.Val ∧ x.Val < vars[x.Var.toNat]?.getD 0
structure FactsOK (vars : List Int) (f : List Fact) : Prop where
 r : ∀ x ∈ f, InR vars x
 o : f.Pairwise fun a b => a.Var < b.Var
structure OpOK (vars : List Int) (o : Op) : Prop where
 c0 : 0 ≤ o.Cost
 c1 : o.Cost ≤ 1048576
 ne : o.Effs.length ≤ 64
 nm : o.Name.size ≤ 256
 ch : ∀ c ∈ QJ o.Name, 32 ≤ c ∧ c ≤ 126
 pre : FactsOK vars o.Pre
 eff : ∀ e ∈ o.Effs, FactsOK vars e.When ∧ InR vars ⟨e.Var, e.Val⟩
structure StateOK (vars s : List Int) : Prop where
 len : s.length = vars.length
 r : ∀ (i : Nat) (x d : Int), s[i]? = some x → vars[i]? = some d → 0 ≤ x ∧ x < d
structure GoodT (t : Task) : Prop where
 nv : t.Vars.length ≤ 64
 no : t.Ops.length ≤ 4096
 v : ∀ n ∈ t.Vars, 1 ≤ n ∧ n ≤ 64
 init : StateOK t.Vars t.Init
 goal : FactsOK t.Vars t.Goal
 op : ∀ o ∈ t.Ops, OpOK t.Vars o
theorem Qu {α : Type} {l : List α} {i : Nat} {x : α} (h : l[i]? = some x) : l.take (i + 1) = l.take i ++ [x] := by rw [List.take_add_one, h]; rfl
theorem QbQ {vars : List Int} {l : List Fact} {x : Fact} : FactsOK vars (l ++ [x]) ↔ FactsOK vars l ∧ InR vars x ∧ ∀ a ∈ l, a.Var < x.Var := by
 constructor
 ·rintro ⟨h1, h2⟩
  rw [List.pairwise_append] at h2
  exact ⟨⟨fun y hy => h1 y (by simp [hy]), h2.1⟩, h1 x (by simp), fun a ha => h2.2.2 a ha x (by simp)⟩
 ·rintro ⟨⟨h1, h2⟩, h3, h4⟩
  refine ⟨fun y hy => ?_, List.pairwise_append.2 ⟨h2, by simp, fun a ha b hb => ?_⟩⟩
  ·rcases List.mem_append.1 hy with hy | hy
   ·exact h1 y hy
   ·simp only [List.mem_singleton] at hy; subst hy; exact h3
  ·simp only [List.mem_singleton] at hb; subst hb; exact h4 a ha
theorem FactsOK.take {vars : List Int} {f : List Fact} (h : FactsOK vars f) (i : Nat) : FactsOK vars (f.take i) := ⟨fun x hx => h.r x (List.mem_of_mem_take hx), h.o.sublist (List.take_sublist i f)⟩
theorem FactsOK.len {vars : List Int} {f : List Fact} (h : FactsOK vars f) : f.length ≤ vars.length := by
 have := nodup_short' (n := vars.length) (L := f.map fun x => x.Var.toNat) ?_ ?_
 ·simpa using this
 ·refine List.pairwise_map.2 (h.o.imp_of_mem ?_)
  intro a b ha hb hlt
  have := h.r a ha
  have := h.r b hb
  unfold InR at *
  omega
 ·intro x hx
  obtain ⟨y, hy, rfl⟩ := List.mem_map.1 hx
  have := h.r y hy
  unfold InR at *
  omega
theorem Qg5 {vars : List Int} {f : List Fact} {i : Nat} {x : Fact} (hx : f[i]? = some x) (h : ¬ (InR vars x ∧ ∀ a ∈ f.take i, a.Var < x.Var)) : ¬ FactsOK vars f := fun hf => h (by
 have := hf.take (i + 1)
 rw [Qu hx] at this
 exact (QbQ.1 this).2)
theorem Qdk {vars : List Int} {f : List Fact} {i : Nat} {x : Fact} (hx : f[i]? = some x) (h : FactsOK vars (f.take i)) (hr : InR vars x) (hl : ∀ a ∈ f.take i, a.Var < x.Var) : FactsOK vars (f.take (i + 1)) := by
 rw [Qu hx]
 exact QbQ.2 ⟨h, hr, hl⟩
theorem QeT {vars : List Int} {n : Int} (h0 : 0 ≤ n) (h1 : n < (vars.length : Int)) : QD vars n = some (vars[n.toNat]?.getD 0) := by
 obtain ⟨d, hd⟩ := Ql (xs := vars) (i := n.toNat) (by omega)
 unfold QD
 rw [if_pos h0, hd]
 rfl
open Classical in
theorem QeU (vars : List Int) (f : List Fact) (hv : vars.length ≤ 4096) : JX vars f = some (decide (FactsOK vars f)) := by
 refine Ok.eq ?_
 unfold JX
 refine Ok.ctl (fun i _ => FactsOK vars (f.take i)) (fun r => r = false ∧ ¬ FactsOK vars f) ⟨by simp, by simp⟩ ?_ ?_ ?_
 ·rintro i _ hi h
  obtain ⟨x, hx⟩ := Ql hi
  have hb := fun h => Qg5 (vars := vars) hx h
  have hlen := h.len
  have hil : i ≤ 4096 := by rw [List.length_take] at hlen; omega
  simp only [Qj, hx, Option.bind_some]
  by_cases h1 : x.Var < 0
  ·simp only [h1, decide_true, if_true, Option.bind_some]; exact Ok.ret ⟨rfl, hb fun h => by have := h.1; unfold InR at this; omega⟩
  by_cases h2 : (vars.length : Int) ≤ x.Var
  ·simp only [h1, h2, decide_true, decide_false, Bool.false_eq_true, if_false, if_true, Option.bind_some]; exact Ok.ret ⟨rfl, hb fun h => by have := h.1; unfold InR at this; omega⟩
  by_cases h3 : x.Val < 0
  ·simp only [h1, h2, h3, decide_true, decide_false, Bool.false_eq_true, if_false, if_true, Option.bind_some]; exact Ok.ret ⟨rfl, hb fun h => by have := h.1; unfold InR at this; omega⟩
  rw [QeT (by omega) (by omega)]
  by_cases h4 : vars[x.Var.toNat]?.getD 0 ≤ x.Val
  ·simp only [h1, h2, h3, h4, decide_true, decide_false, Bool.false_eq_true, if_false, if_true, Option.bind_some]; exact Ok.ret ⟨rfl, hb fun h => by have := h.1; unfold InR at this; omega⟩
  have hr : InR vars x := by unfold InR; omega
  by_cases h5 : 0 < i
  ·obtain ⟨a, ha⟩ := Ql (show i - 1 < f.length by omega)
   have hw : IntKind.i64.wrap ((i : Int) - 1) = ((i - 1 : Nat) : Int) := by rw [Q1 (by omega) (by omega)]; omega
   have h5' : (0 : Int) < (i : Int) := by omega
   have ht : f.take i = f.take (i - 1) ++ [a] := by
    have := Qu ha
    rwa [show i - 1 + 1 = i by omega] at this
   simp only [h1, h2, h3, h4, h5', hw, Qj, ha, decide_true, decide_false, Bool.false_eq_true, if_false, if_true, Option.bind_some]
   by_cases h6 : x.Var ≤ a.Var
   ·simp only [h6, decide_true, if_true]
    exact Ok.ret ⟨Z, hb fun h => by have := h.2 a (by rw [ht]; simp); omega⟩
   ·simp only [h6, decide_false, Bool.false_eq_true, if_false]
    refine Ok.ret (Qdk hx h hr fun b hb => ?_)
    rw [ht] at hb h
    rcases List.mem_append.1 hb with hb | hb
    ·have := (QbQ.1 h).2.2 b hb; omega
    ·simp only [List.mem_singleton] at hb; subst hb; omega
  ·have h5' : ¬ (0 : Int) < (i : Int) := by omega
   obtain rfl : i = 0 := by omega
   simp only [h1, h2, h3, h4, h5', decide_true, decide_false, Bool.false_eq_true, if_false, if_true, Option.bind_some]
   exact Ok.ret (Qdk hx h hr (by simp))
 ·rintro r ⟨rfl, hn⟩
  exact Ok.ret (by simp [hn])
 ·intro _ h
  rw [List.take_length] at h
  exact Ok.ret (by simp [h])
open Classical in
theorem Qdc (vars : List Int) (f : List Fact) : J6 vars f = some (decide (FactsOK vars f)) := by
 refine Ok.eq ?_
 unfold J6
 refine Ok.ctl (fun i last => FactsOK vars (f.take i) ∧ -1 ≤ last ∧ (∀ a ∈ f.take i, a.Var ≤ last) ∧ (last = -1 ∨ ∃ a ∈ f.take i, a.Var = last)) (fun r => r = false ∧ ¬ FactsOK vars f) ⟨⟨by simp, by simp⟩, by omega, by simp, .inl Z⟩ ?_ ?_ ?_
 ·rintro i last hi ⟨h, g1, g2, g3⟩
  obtain ⟨x, hx⟩ := Ql hi
  have hb := fun h => Qg5 (vars := vars) hx h
  simp only [Qj, hx, Option.bind_some]
  by_cases h1 : x.Var ≤ last
  ·simp only [h1, decide_true, if_true, Option.bind_some]; exact Ok.ret ⟨rfl, hb fun h => by
    have := h.1; unfold InR at this
    rcases g3 with g3 | ⟨a, ha, e⟩
    ·omega
    ·have := h.2 a ha; omega⟩
  by_cases h2 : (vars.length : Int) ≤ x.Var
  ·simp only [h1, h2, decide_true, decide_false, Bool.false_eq_true, if_false, if_true, Option.bind_some]; exact Ok.ret ⟨rfl, hb fun h => by have := h.1; unfold InR at this; omega⟩
  by_cases h3 : x.Val < 0
  ·simp only [h1, h2, h3, decide_true, decide_false, Bool.false_eq_true, if_false, if_true, Option.bind_some]; exact Ok.ret ⟨rfl, hb fun h => by have := h.1; unfold InR at this; omega⟩
  rw [QeT (by omega) (by omega)]
  by_cases h4 : vars[x.Var.toNat]?.getD 0 ≤ x.Val
  ·simp only [h1, h2, h3, h4, decide_true, decide_false, Bool.false_eq_true, if_false, if_true, Option.bind_some]; exact Ok.ret ⟨rfl, hb fun h => by have := h.1; unfold InR at this; omega⟩
  have hr : InR vars x := by unfold InR; omega
  simp only [h1, h2, h3, h4, decide_true, decide_false, Bool.false_eq_true, if_false, if_true, Option.bind_some]
  refine Ok.ret ⟨Qdk hx h hr fun b hb => ?_, by omega, fun a ha => ?_, .inr ⟨x, ?_, Z⟩⟩
  ·have := g2 b hb; omega
  ·rw [Qu hx] at ha
   rcases List.mem_append.1 ha with ha | ha
   ·have := g2 a ha; omega
   ·simp only [List.mem_singleton] at ha; subst ha; omega
  ·rw [Qu hx]; simp
 ·rintro r ⟨rfl, hn⟩
  exact Ok.ret (by simp [hn])
 ·rintro _ ⟨h, _⟩
  rw [List.take_length] at h
  exact Ok.ret (by simp [h])
theorem Kb {α R β : Type} {xs : List α} {B : Nat → Unit → Option (Ctl Unit R)} {r : R} {kr : R → Option β} {k : Unit → Option β} (p : α → Prop) [DecidablePred p] (h : ∀ i x, xs[i]? = some x → B i () = some (if p x then .next () else .ret r)) :
  ctl (QI B xs.length 0 ()) kr k = open Classical in if ∀ x ∈ xs, p x then k () else kr r := by
 classical
 rw [QgW (p := fun i => decide (∀ x, xs[i]? = some x → p x)) (r := r)]
 ·have : ((List.range xs.length).all fun i => decide (∀ x, xs[i]? = some x → p x)) = true ↔ ∀ x ∈ xs, p x := by
   rw [List.all_eq_true]
   constructor
   ·intro h x hx
    obtain ⟨i, hi⟩ := List.mem_iff_getElem?.1 hx
    have hlt := (List.getElem?_eq_some_iff.1 hi).1
    have := h i (by simpa using hlt)
    simp only [decide_eq_true_eq] at this
    exact this x hi
   ·intro h i hi
    simp only [decide_eq_true_eq]
    intro x hx
    exact h x (List.mem_of_getElem? hx)
  by_cases hall : ∀ x ∈ xs, p x
  ·rw [if_pos (this.2 hall), if_pos hall]
  ·rw [if_neg (fun h => hall (this.1 h)), if_neg hall]
 ·intro i hi
  obtain ⟨x, hx⟩ := Ql hi
  rw [h i x hx]
  by_cases hp : p x
  ·have : decide (∀ y, xs[i]? = some y → p y) = true := by simp [hx, hp]
   rw [this, if_pos hp]; rfl
  ·have : decide (∀ y, xs[i]? = some y → p y) = false := by simp [hx, hp]
   rw [this, if_neg hp]; rfl
open Classical in
theorem Qjn (vars s : List Int) (hl : s.length = vars.length) : ((List.range s.length).all fun i => decide (∀ x d, s[i]? = some x → vars[i]? = some d → 0 ≤ x ∧ x < d)) = decide (StateOK vars s) := by
 rw [Bool.eq_iff_iff, List.all_eq_true, decide_eq_true_eq]
 constructor
 ·intro h
  refine ⟨hl, fun i x d hx hd => ?_⟩
  have hlt := (List.getElem?_eq_some_iff.1 hx).1
  have := h i (by simpa using hlt)
  simp only [decide_eq_true_eq] at this
  exact this x d hx hd
 ·intro h i hi
  simp only [decide_eq_true_eq]
  exact h.r i
open Classical in
theorem QjI (vars s : List Int) : Yt vars s = some (decide (StateOK vars s)) := by
 unfold Yt
 by_cases hl : s.length = vars.length
 ·have hl' : (s.length : Int) = (vars.length : Int) := by omega
  simp only [hl', decide_true, Bool.not_true, Bool.false_eq_true, if_false]
  rw [QgW (p := fun i => decide (∀ x d, s[i]? = some x → vars[i]? = some d → 0 ≤ x ∧ x < d)) (r := false), Qjn vars s hl]
  ·cases decide (StateOK vars s) <;> rfl
  ·intro i hi
   obtain ⟨x, hx⟩ := Ql hi
   obtain ⟨d, hd⟩ := Ql (show i < vars.length by omega)
   simp only [Qj, hx, hd, Option.bind_some, Option.some.injEq, forall_eq']
   by_cases h1 : x < 0
   ·have : ¬ (0 ≤ x ∧ x < d) := by omega
    simp only [h1, this, decide_true, decide_false, if_true, Option.bind_some, forall_const, Bool.false_eq_true, if_false]
    simp [this]
   ·by_cases h2 : d ≤ x
    ·have : ¬ (0 ≤ x ∧ x < d) := by omega
     simp [h1, h2, this]
    ·have : 0 ≤ x ∧ x < d := by omega
     simp [h1, h2, this]
 ·have hl' : ¬ (s.length : Int) = (vars.length : Int) := by omega
  have : ¬ StateOK vars s := fun h => hl h.len
  simp [hl', this]
open Classical in
theorem Qki (vars s : List Int) : Y2 vars s = some (decide (StateOK vars s)) := by
 rw [← QjI]
 unfold Y2 Yt
 congr 1
 congr 1
 congr 1
 funext i _
 cases QD s (i : Int) <;> rfl
theorem Qlz {s : ByteArray} {R : Type} (r : R) (j : Nat) (x : Int) (hj : (QJ s)[j]? = some x) :
  (((QD (QJ s) (j : Int)).bind fun x => if decide (x < 32) then (some true) else (some (decide (126 < x)))).bind fun (z : Bool) => if z then (some (Ctl.ret r)) else (some (Ctl.next ()))) = some (if 32 ≤ x ∧ x ≤ 126 then Ctl.next () else .ret r) := by
 rw [Qj, hj]
 simp only [Option.bind_some]
 by_cases h1 : x < 32
 ·have : ¬ (32 ≤ x ∧ x ≤ 126) := by omega
  simp [h1, this]
 ·by_cases h2 : 126 < x
  ·have : ¬ (32 ≤ x ∧ x ≤ 126) := by omega
   simp [h1, h2, this]
  ·have : 32 ≤ x ∧ x ≤ 126 := by omega
   simp [h1, h2, this]
theorem Qf0 (s : ByteArray) : (s.size : Int).toNat = (QJ s).length := by rw [YZ]; simp
open Classical in
theorem QlO (s : ByteArray) (h : s.size ≤ 9223372036854775807) : YT s = some (decide (s.size ≤ 256 ∧ ∀ c ∈ QJ s, 32 ≤ c ∧ c ≤ 126)) := by
 unfold YT
 have hm : must (decide ((s.size : Int) ≤ 9223372036854775807)) = some () := by unfold must; rw [if_pos (by simp; omega)]
 simp only [hm, Option.bind_some, Qf0]
 rw [Kb (r := false) (fun c => 32 ≤ c ∧ c ≤ 126) (fun i x hx => Qlz false i x hx)]
 by_cases h1 : ∀ c ∈ QJ s, 32 ≤ c ∧ c ≤ 126
 ·rw [if_pos h1]
  by_cases h2 : s.size ≤ 256
  ·have : (s.size : Int) ≤ 256 := by omega
   simp only [this, h2, h1, decide_true, true_and]
   simp; exact h1
  ·have : ¬ (s.size : Int) ≤ 256 := by omega
   simp [this, h2]
 ·rw [if_neg h1]
  simp [h1]
open Classical in
theorem tOp (vars : List Int) (o : Op) (hv : vars.length ≤ 4096) : KV vars o = some (decide (OpOK vars o)) := by
 unfold KV
 by_cases h1 : o.Cost < 0
 ·have : ¬ OpOK vars o := fun h => by have := h.c0; omega
  simp [h1, this]
 by_cases h2 : 1048576 < o.Cost
 ·have : ¬ OpOK vars o := fun h => by have := h.c1; omega
  simp [h1, h2, this]
 by_cases h3 : 64 < (o.Effs.length : Int)
 ·have : ¬ OpOK vars o := fun h => by have := h.ne; omega
  simp [h1, h2, h3, this]
 by_cases h4 : 256 < (o.Name.size : Int)
 ·have : ¬ OpOK vars o := fun h => by have := h.nm; omega
  simp [h1, h2, h3, h4, this]
 simp only [h1, h2, h3, h4, decide_false, Bool.false_eq_true, if_false, QeU _ _ hv, Option.bind_some]
 by_cases h5 : FactsOK vars o.Pre
 ·have hm : must (decide ((o.Name.size : Int) ≤ 9223372036854775807)) = some () := by unfold must; rw [if_pos (by simp; omega)]
  simp only [h5, decide_true, Bool.not_true, Bool.false_eq_true, if_false, hm, Option.bind_some, Qf0]
  rw [Kb (r := false) (fun c => 32 ≤ c ∧ c ≤ 126) (fun i x hx => Qlz false i x hx)]
  by_cases h6 : ∀ c ∈ QJ o.Name, 32 ≤ c ∧ c ≤ 126
  ·rw [if_pos h6, Kb (r := false) (fun e => FactsOK vars e.When ∧ InR vars ⟨e.Var, e.Val⟩)]
   ·by_cases h7 : ∀ e ∈ o.Effs, FactsOK vars e.When ∧ InR vars ⟨e.Var, e.Val⟩
    ·rw [if_pos h7]
     have : OpOK vars o := ⟨by omega, by omega, by omega, by omega, h6, h5, h7⟩
     simp [this]
    ·rw [if_neg h7]
     have : ¬ OpOK vars o := fun h => h7 h.eff
     simp [this]
   ·intro i e he
    have hone : FactsOK vars [⟨e.Var, e.Val⟩] ↔ InR vars ⟨e.Var, e.Val⟩ := ⟨fun h => h.r _ (by simp), fun h => ⟨by simpa using h, by simp⟩⟩
    simp only [Qj, he, Option.bind_some]
    by_cases h7 : FactsOK vars e.When
    ·by_cases h8 : InR vars ⟨e.Var, e.Val⟩ <;> simp [h7, h8, hone, QeU _ _ hv]
    ·simp [h7]
  ·rw [if_neg h6]
   have : ¬ OpOK vars o := fun h => h6 h.ch
   simp [this]
 ·have : ¬ OpOK vars o := fun h => h5 h.pre
  simp [h5, this]
open Classical in
theorem Qmp (t : Task) : Qax t = some (decide (GoodT t)) := by
 unfold Qax
 by_cases h1 : 64 < (t.Vars.length : Int)
 ·have : ¬ GoodT t := fun h => by have := h.nv; omega
  simp [h1, this]
 by_cases h2 : 4096 < (t.Ops.length : Int)
 ·have : ¬ GoodT t := fun h => by have := h.no; omega
  simp [h1, h2, this]
 have hv : t.Vars.length ≤ 4096 := by omega
 simp only [h1, h2, decide_false, Bool.or_self, Bool.false_eq_true, if_false]
 rw [Kb (r := false) (fun n => 1 ≤ n ∧ n ≤ 64)]
 ·by_cases h3 : ∀ n ∈ t.Vars, 1 ≤ n ∧ n ≤ 64
  ·rw [if_pos h3, QjI]
   by_cases h4 : StateOK t.Vars t.Init
   ·by_cases h5 : FactsOK t.Vars t.Goal
    ·simp only [h4, h5, decide_true, Bool.not_true, Bool.false_eq_true, if_false, Option.bind_some, QeU _ _ hv]
     rw [Kb (r := false) (fun o => OpOK t.Vars o)]
     ·by_cases h6 : ∀ o ∈ t.Ops, OpOK t.Vars o
      ·rw [if_pos h6]
       have : GoodT t := ⟨by omega, by omega, h3, h4, h5, h6⟩
       simp [this]
      ·rw [if_neg h6]
       have : ¬ GoodT t := fun h => h6 h.op
       simp [this]
     ·intro i o ho
      simp only [Qj, ho, Option.bind_some, tOp _ _ hv]
      by_cases h6 : OpOK t.Vars o <;> simp [h6]
    ·have : ¬ GoodT t := fun h => h5 h.goal
     simp [h4, h5, this, QeU _ _ hv]
   ·have : ¬ GoodT t := fun h => h4 h.init
    simp [h4, this]
  ·rw [if_neg h3]
   have : ¬ GoodT t := fun h => h3 h.v
   simp [this]
 ·intro i n hn
  simp only [Qj, hn, Option.bind_some]
  by_cases ha : n < 1
  ·have : ¬ (1 ≤ n ∧ n ≤ 64) := by omega
   simp [ha, this]
  ·by_cases hb : 64 < n
   ·have : ¬ (1 ≤ n ∧ n ≤ 64) := by omega
    simp [ha, hb, this]
   ·have : 1 ≤ n ∧ n ≤ 64 := by omega
    simp [ha, hb, this]
/-! ### the program's check -/
def Qez (t : Task) : List (List Fact) := t.Goal :: t.Ops.flatMap fun o => o.Pre :: o.Effs.map fun e => e.When
theorem QcS (t : Task) (ho : t.Ops.length ≤ 4096) (he : ∀ o ∈ t.Ops, o.Effs.length ≤ 64) : JK t = some (Qez t) := by
 unfold JK
 rw [Qc8 t.Ops (fun o => o.Pre :: o.Effs.map fun e => e.When) (s0 := [t.Goal])]
 ·rfl
 ·intro i o s hi hs
  have hm := List.mem_of_getElem? hi
  have hlt := (List.getElem?_eq_some_iff.1 hi).1
  have hsl : s.length ≤ 1 + 4096 * 65 := by
   rw [hs, List.length_append]
   have := Qdy (xs := t.Ops.take i) (g := fun o => o.Pre :: o.Effs.map fun e => e.When) (M := 65) (fun x hx => by
    have := he x (List.mem_of_mem_take hx)
    simp; omega)
   have h2 : (t.Ops.take i).length * 65 ≤ 4096 * 65 := Nat.mul_le_mul_right _ (by rw [List.length_take]; omega)
   simp only [List.length_singleton]; omega
  simp only [Qj, hi, Option.bind_some]
  rw [K4 (by simp only [List.length_singleton]; omega)]
  simp only [Option.bind_some]
  rw [Qc8 o.Effs (fun e => [e.When]) (s0 := s ++ [o.Pre])]
  ·simp [Qd7]
  ·intro j e u hj hu
   have hjl := (List.getElem?_eq_some_iff.1 hj).1
   have := he o hm
   simp only [Qj, hj, Option.bind_some]
   rw [K4]
   ·rfl
   ·rw [hu, Qd7]
    simp only [List.length_append, List.length_map, List.length_take, List.length_singleton]
    omega
open Classical in
theorem Qlk (l : List (List Fact)) : KX l = some (!decide (∀ f ∈ l, f.length ≤ 64)) := by
 unfold KX
 have h1 : Ok (Kh l) fun n => (0 ≤ n ↔ ¬ ∀ f ∈ l, f.length ≤ 64) := by
  unfold Kh
  refine Ok.ctl (fun i _ => ∀ f ∈ l.take i, f.length ≤ 64) (fun n => 0 ≤ n ∧ ¬ ∀ f ∈ l, f.length ≤ 64) (by simp) ?_ ?_ ?_
  ·rintro i _ hi h
   obtain ⟨x, hx⟩ := Ql hi
   have ht : KO x = decide (64 < (x.length : Int)) := by
    have := Qbk x
    unfold KP at this
    exact (Zu this).symm
   simp only [Qj, hx, Option.bind_some, ht]
   by_cases hb : 64 < (x.length : Int)
   ·simp only [hb, decide_true, if_true]
    exact Ok.ret ⟨by omega, fun h => by have := h x (List.mem_of_getElem? hx); omega⟩
   ·simp only [hb, decide_false, Bool.false_eq_true, if_false]
    refine Ok.ret fun f hf => ?_
    rw [Qu hx] at hf
    rcases List.mem_append.1 hf with hf | hf
    ·exact h f hf
    ·simp only [List.mem_singleton] at hf; subst hf; omega
  ·rintro r ⟨h1, h2⟩
   exact Ok.ret ⟨fun _ => h2, fun _ => h1⟩
  ·intro _ h
   rw [List.take_length] at h
   exact Ok.ret ⟨fun h => by omega, fun h' => absurd h h'⟩
 obtain ⟨n, hn, h2⟩ := h1
 rw [hn]
 simp only [Option.bind_some, Option.some.injEq]
 by_cases h3 : ∀ f ∈ l, f.length ≤ 64
 ·have : ¬ 0 ≤ n := fun h => h2.1 h h3
  simp only [this, h3, decide_false]; simp; exact h3
 ·have : 0 ≤ n := h2.2 h3
  simp only [this, decide_true]; simp; simpa using h3
open Classical in
theorem large_ok' (t : Task) : Ok (YU t) fun b => b = false ↔ t.Vars.length ≤ 64 ∧ t.Ops.length ≤ 4096 ∧ (∀ o ∈ t.Ops, o.Effs.length ≤ 64) ∧ ∀ f ∈ Qez t, f.length ≤ 64 := by
 unfold YU
 by_cases h1 : 64 < (t.Vars.length : Int)
 ·simp only [h1, decide_true, Bool.true_or, if_true]
  exact Ok.ret ⟨fun h => (by cases h), fun h => by omega⟩
 by_cases h2 : 4096 < (t.Ops.length : Int)
 ·simp only [h1, h2, decide_true, Bool.or_true, if_true]
  exact Ok.ret ⟨fun h => (by cases h), fun h => by omega⟩
 simp only [h1, h2, decide_false, Bool.or_self, Bool.false_eq_true, if_false]
 rw [Kb (r := true) (fun o => o.Effs.length ≤ 64)]
 ·by_cases h3 : ∀ o ∈ t.Ops, o.Effs.length ≤ 64
  ·rw [if_pos h3, QcS t (by omega) h3]
   simp only [Option.bind_some, Qlk]
   refine Ok.ret ⟨fun h => ⟨by omega, by omega, h3, by simpa using h⟩, fun h => by simpa using h.2.2.2⟩
  ·rw [if_neg h3]
   exact Ok.ret ⟨fun h => (by cases h), fun h => absurd h.2.2.1 h3⟩
 ·intro i o ho
  simp only [Qj, ho, Option.bind_some]
  by_cases h : 64 < (o.Effs.length : Int)
  ·have : ¬ o.Effs.length ≤ 64 := by omega
   simp [h, this]
  ·have : o.Effs.length ≤ 64 := by omega
   simp [h, this]
theorem QfG {t : Task} (h : GoodT t) : ∀ f ∈ Qez t, FactsOK t.Vars f := by
 intro f hf
 unfold Qez at hf
 rcases List.mem_cons.1 hf with rfl | hf
 ·exact h.goal
 ·obtain ⟨o, ho, hf⟩ := List.mem_flatMap.1 hf
  rcases List.mem_cons.1 hf with rfl | hf
  ·exact (h.op o ho).pre
  ·obtain ⟨e, he, rfl⟩ := List.mem_map.1 hf
   exact ((h.op o ho).eff e he).1
open Classical in
theorem QkD (t : Task) (hn : ∀ o ∈ t.Ops, o.Name.size ≤ 9223372036854775807) : Ok (Ks t) fun e => e = none ↔ GoodT t := by
 unfold Ks
 obtain ⟨b, hb, h0⟩ := large_ok' t
 rw [hb]
 simp only [Option.bind_some]
 cases b with
 | true =>
  simp only [if_true]
  refine Ok.ret ⟨fun h => (by cases h), fun h => ?_⟩
  have := h0.2 ⟨h.nv, h.no, fun o ho => (h.op o ho).ne, fun f hf => Nat.le_trans (QfG h f hf).len h.nv⟩
  cases this
 | false =>
  obtain ⟨g1, g2, g3, g4⟩ := h0.1 rfl
  simp only [Bool.false_eq_true, if_false]
  rw [Kb (r := some 1) (fun n => 1 ≤ n ∧ n ≤ 64)]
  ·by_cases h1 : ∀ n ∈ t.Vars, 1 ≤ n ∧ n ≤ 64
   ·rw [if_pos h1, Kb (r := some 1) (fun o => 0 ≤ o.Cost ∧ o.Cost ≤ 1048576)]
    ·by_cases h2 : ∀ o ∈ t.Ops, 0 ≤ o.Cost ∧ o.Cost ≤ 1048576
     ·rw [if_pos h2, Qki]
      by_cases h3 : StateOK t.Vars t.Init
      ·simp only [h3, decide_true, Bool.not_true, Option.bind_some, Bool.false_eq_true, if_false, QcS t g2 g3]
       rw [Kb (r := some 2) (fun f => FactsOK t.Vars f)]
       ·by_cases h4 : ∀ f ∈ Qez t, FactsOK t.Vars f
        ·rw [if_pos h4, Kb (r := some 2) (fun o => ∀ e ∈ o.Effs, InR t.Vars ⟨e.Var, e.Val⟩)]
         ·by_cases h5 : ∀ o ∈ t.Ops, ∀ e ∈ o.Effs, InR t.Vars ⟨e.Var, e.Val⟩
          ·rw [if_pos h5, Kb (r := some 8) (fun o => o.Name.size ≤ 256 ∧ ∀ c ∈ QJ o.Name, 32 ≤ c ∧ c ≤ 126)]
           ·by_cases h6 : ∀ o ∈ t.Ops, o.Name.size ≤ 256 ∧ ∀ c ∈ QJ o.Name, 32 ≤ c ∧ c ≤ 126
            ·rw [if_pos h6]
             refine Ok.ret ⟨fun _ => ⟨g1, g2, h1, h3, h4 _ (by simp [Qez]), fun o ho => ⟨(h2 o ho).1, (h2 o ho).2, g3 o ho, (h6 o ho).1, (h6 o ho).2, h4 _ ?_, fun e he => ⟨h4 _ ?_, h5 o ho e he⟩⟩⟩, fun _ => rfl⟩
             ·unfold Qez
              exact List.mem_cons_of_mem _ (List.mem_flatMap.2 ⟨o, ho, by simp⟩)
             ·unfold Qez
              exact List.mem_cons_of_mem _ (List.mem_flatMap.2 ⟨o, ho, List.mem_cons_of_mem _ (List.mem_map.2 ⟨e, he, Z⟩)⟩)
            ·rw [if_neg h6]
             exact Ok.ret ⟨fun h => (by cases h), fun h => absurd (fun o ho => ⟨(h.op o ho).nm, (h.op o ho).ch⟩) h6⟩
           ·intro i o ho
            have := hn o (List.mem_of_getElem? ho)
            simp only [Qj, ho, Option.bind_some, QlO _ this]
            by_cases h : o.Name.size ≤ 256 ∧ ∀ c ∈ QJ o.Name, 32 ≤ c ∧ c ≤ 126
            ·rw [decide_eq_true h, if_pos h]; rfl
            ·rw [decide_eq_false h, if_neg h]; rfl
          ·rw [if_neg h5]
           exact Ok.ret ⟨fun h => (by cases h), fun h => absurd (fun o ho e he => ((h.op o ho).eff e he).2) h5⟩
         ·intro i o ho
          simp only [Qj, ho, Option.bind_some]
          rw [Kb (r := some 2) (fun e => InR t.Vars ⟨e.Var, e.Val⟩)]
          ·by_cases h : ∀ e ∈ o.Effs, InR t.Vars ⟨e.Var, e.Val⟩
           ·rw [if_pos h, if_pos h]
           ·rw [if_neg h, if_neg h]
          ·intro j e he
           have hone : FactsOK t.Vars [⟨e.Var, e.Val⟩] ↔ InR t.Vars ⟨e.Var, e.Val⟩ := ⟨fun h => h.r _ (by simp), fun h => ⟨by simpa using h, by simp⟩⟩
           simp only [Qj, he, Option.bind_some, Qdc, hone]
           by_cases h : InR t.Vars ⟨e.Var, e.Val⟩ <;> simp [h]
        ·rw [if_neg h4]
         exact Ok.ret ⟨fun h => (by cases h), fun h => absurd (QfG h) h4⟩
       ·intro i f hf
        simp only [Qj, hf, Option.bind_some, Qdc]
        by_cases h : FactsOK t.Vars f <;> simp [h]
      ·simp only [h3, decide_false, Bool.not_false, Option.bind_some, if_true]
       exact Ok.ret ⟨fun h => (by cases h), fun h => absurd h.init h3⟩
     ·rw [if_neg h2]
      exact Ok.ret ⟨fun h => (by cases h), fun h => absurd (fun o ho => ⟨(h.op o ho).c0, (h.op o ho).c1⟩) h2⟩
    ·intro i o ho
     simp only [Qj, ho, Option.bind_some]
     by_cases ha : o.Cost < 0
     ·have : ¬ (0 ≤ o.Cost ∧ o.Cost ≤ 1048576) := by omega
      simp [ha, this]
     ·by_cases hb : 1048576 < o.Cost
      ·have : ¬ (0 ≤ o.Cost ∧ o.Cost ≤ 1048576) := by omega
       simp [ha, hb, this]
      ·have : 0 ≤ o.Cost ∧ o.Cost ≤ 1048576 := by omega
       simp [ha, hb, this]
   ·rw [if_neg h1]
    exact Ok.ret ⟨fun h => (by cases h), fun h => absurd h.v h1⟩
  ·intro i n hn
   simp only [Qj, hn, Option.bind_some]
   by_cases ha : n < 1
   ·have : ¬ (1 ≤ n ∧ n ≤ 64) := by omega
    simp [ha, this]
   ·by_cases hb : 64 < n
    ·have : ¬ (1 ≤ n ∧ n ≤ 64) := by omega
     simp [ha, hb, this]
    ·have : 1 ≤ n ∧ n ≤ 64 := by omega
     simp [ha, hb, this]
/-! from PwWaPj -/
/-! ### small words -/
theorem Qgg {l : List Int} {n : Nat} (hn : l.Nodup) (h : ∀ w ∈ l, 0 ≤ w ∧ w < (n : Int)) : l.length ≤ n := by
 have := nodup_short' (n := n) (L := l.map Int.toNat) ?_ ?_
 ·simpa using this
 ·refine List.pairwise_map.2 (List.Pairwise.imp_of_mem ?_ hn)
  intro a b ha hb hne e
  have := h a ha
  have := h b hb
  exact hne (by omega)
 ·intro x hx
  obtain ⟨y, hy, rfl⟩ := List.mem_map.1 hx
  have := h y hy
  omega
/-! ### the variables outside -/
/-! ### combinations of values -/
def dom (vars : List Int) (w : Int) : Int := vars[w.toNat]?.getD 0
def Yw : List Int → Int
 | [] => 1
 | x :: l => x * Yw l
theorem QbF (l k : List Int) : Yw (l ++ k) = Yw l * Yw k := by
 induction l with
 | nil => simp [Yw]
 | cons x l ih => simp only [List.cons_append, Yw, ih, Int.mul_assoc]
theorem Qc2 {l : List Int} (h : ∀ x ∈ l, 1 ≤ x) : 1 ≤ Yw l := by
 induction l with
 | nil => simp [Yw]
 | cons x l ih =>
  have h1 := h x (by simp)
  have h2 := ih fun y hy => h y (by simp [hy])
  simp only [Yw]
  have : 1 * 1 ≤ x * Yw l := Int.mul_le_mul h1 h2 (by omega) (by omega)
  omega
theorem Qks {l k : List Int} (h : l.Perm k) : Yw l = Yw k := by
 induction h with
 | nil => rfl
 | cons x _ ih => simp only [Yw, ih]
 | swap x y l => simp only [Yw]; rw [← Int.mul_assoc, ← Int.mul_assoc, Int.mul_comm y x]
 | trans _ _ h1 h2 => rw [h1, h2]
theorem Qge {l k : List Int} (hl : ∀ x ∈ l, 1 ≤ x) (hk : ∀ x ∈ k, 1 ≤ x) : Yw l ≤ Yw (l ++ k) := by
 rw [QbF]
 have h1 := Qc2 hl
 have h2 := Qc2 hk
 have : Yw l * 1 ≤ Yw l * Yw k := Int.mul_le_mul_of_nonneg_left h2 (by omega)
 omega
/-! ### put -/
def Qmg (vars : List Int) : List Int → (Int → Int) → Int
 | [], _ => 0
 | w :: r, a => a w + dom vars w * Qmg vars r a
/-! ### conditions and effects -/
def hold (f : List Fact) (s : List Int) : Prop := ∀ x ∈ f, s[x.Var.toNat]? = some x.Val
open Classical in
theorem QgI {vars s : List Int} {f : List Fact} (hf : FactsOK vars f) (hs : s.length = vars.length) : Kt f s = some (decide (hold f s)) := by
 unfold Kt
 rw [Kb (r := false) (fun x => s[x.Var.toNat]? = some x.Val)]
 ·by_cases h : hold f s
  ·rw [decide_eq_true h]; exact if_pos h
  ·rw [decide_eq_false h]; exact if_neg h
 ·intro i x hx
  have hr := hf.r x (List.mem_of_getElem? hx)
  unfold InR at hr
  obtain ⟨y, hy⟩ := Ql (xs := s) (i := x.Var.toNat) (by omega)
  have e1 : QD s x.Var = some y := by unfold QD; rw [if_pos hr.1, hy]
  have a1 : ¬ x.Var < 0 := by omega
  have a2 : ¬ (s.length : Int) ≤ x.Var := by omega
  simp only [Qj, hx, Option.bind_some, a1, a2, e1, hy, decide_false, Bool.false_eq_true, if_false, Option.some.injEq]
  by_cases h : y = x.Val <;> simp [h]
open Classical in
noncomputable def Qdt (effs : List Effect) (v : Int) (s : List Int) : Int := effs.foldl (fun c e => if e.Var = v ∧ hold e.When s then e.Val else c) (s[v.toNat]?.getD 0)
open Classical in
theorem Qg7 (effs : List Effect) (e : Effect) (v : Int) (s : List Int) : Qdt (effs ++ [e]) v s = if e.Var = v ∧ hold e.When s then e.Val else Qdt effs v s := by simp [Qdt]
/-! from PwWaPg -/
theorem Qli {vars : List Int} {w : Nat} (h : w < vars.length) : vars[w]? = some (dom vars (w : Int)) := by
 obtain ⟨d, hd⟩ := Ql h
 unfold dom
 rw [Int.toNat_natCast, hd]
 rfl
theorem StateOK.at {vars s : List Int} (h : StateOK vars s) {w : Int} (h0 : 0 ≤ w) (h1 : w < (vars.length : Int)) : ∃ x, s[w.toNat]? = some x ∧ 0 ≤ x ∧ x < dom vars w := by
 obtain ⟨x, hx⟩ := Ql (xs := s) (i := w.toNat) (by rw [h.len]; omega)
 have := Qli (vars := vars) (w := w.toNat) (by omega)
 rw [Int.toNat_of_nonneg h0] at this
 exact ⟨x, hx, h.r _ _ _ hx this⟩
theorem StateOK.set {vars s : List Int} (h : StateOK vars s) {w : Int} {x : Int} (h0 : 0 ≤ x) (h1 : x < dom vars w) : StateOK vars (s.set w.toNat x) := by
 refine ⟨by simp [h.len], fun i y d hy hd => ?_⟩
 by_cases e : w.toNat = i
 ·have hlt := (List.getElem?_eq_some_iff.1 hy).1
  simp only [List.length_set] at hlt
  subst e
  rw [List.getElem?_set_self hlt] at hy
  cases hy
  unfold dom at h1
  rw [hd] at h1
  exact ⟨h0, h1⟩
 ·rw [List.getElem?_set_ne e] at hy
  exact h.r i y d hy hd
/-! ### patterns -/
theorem YJ {l : List Int} (hl : ∀ x ∈ l, 1 ≤ x) (i : Nat) : Yw (l.take i) ≤ Yw l := by
 have := Qge (l := l.take i) (k := l.drop i) (fun x hx => hl x (List.mem_of_mem_take hx)) (fun x hx => hl x (List.mem_of_mem_drop hx))
 rwa [List.take_append_drop] at this
/-! ### the variables outside -/
/-! from PwWaHd -/
/-! from PwWaPt -/
noncomputable def aP (t : Task) (p : List Int) (o : Op) (s : List Int) : Int := Qmg t.Vars p.reverse (fun w => Qdt o.Effs w s)
/-! from PwWaPl -/
/-! ### one variable -/
/-! from PwWaPs -/
/-! ### all states -/
def QbB (k : Int) (out : List (List Int)) : List (List Int) := out.flatMap fun s => (List.range k.toNat).map fun (x : Nat) => s ++ [(x : Int)]
def stR : List Int → List (List Int)
 | [] => [[]]
 | k :: r => QbB k (stR r)
def QG (vars : List Int) : List (List Int) := stR vars.reverse
theorem QfC (k : Int) (hk : 0 ≤ k) (out : List (List Int)) : ((QbB k out).length : Int) = out.length * k := by
 unfold QbB
 induction out with
 | nil => simp
 | cons s out ih =>
  simp only [List.flatMap_cons, List.length_append, List.length_map, List.length_range, List.length_cons]
  rw [Int.natCast_add, ih, Int.natCast_add, Int.add_mul]
  omega
theorem QiH : ∀ {r : List Int}, (∀ x ∈ r, 0 ≤ x) → ((stR r).length : Int) = Yw r
 | [], _ => rfl
 | k :: r, h => by
  unfold stR Yw
  rw [QfC k (h k (by simp)), QiH fun x hx => h x (by simp [hx]), Int.mul_comm]
theorem QdK {vars : List Int} {k : Int} {s : List Int} : StateOK (vars ++ [k]) s ↔ ∃ s' x, s = s' ++ [x] ∧ StateOK vars s' ∧ 0 ≤ x ∧ x < k := by
 constructor
 ·intro h
  have hl := h.len
  simp only [List.length_append, List.length_singleton] at hl
  obtain ⟨x, hx⟩ := Ql (xs := s) (i := vars.length) (by omega)
  have hsp : s = s.take vars.length ++ [x] := by
   have := Qu hx
   rw [← this, List.take_of_length_le (by omega)]
  refine ⟨s.take vars.length, x, hsp, ⟨by simp; omega, fun i y d hy hd => ?_⟩, ?_⟩
  ·have hi := (List.getElem?_eq_some_iff.1 hd).1
   refine h.r i y d ?_ (by rw [List.getElem?_append_left hi]; exact hd)
   rw [List.getElem?_take] at hy
   simpa [hi] using hy
  ·exact h.r vars.length x k hx (by simp)
 ·rintro ⟨s', x, rfl, h, h0, h1⟩
  refine ⟨by simp [h.len], fun i y d hy hd => ?_⟩
  by_cases hi : i < vars.length
  ·rw [List.getElem?_append_left (by rw [h.len]; exact hi)] at hy
   rw [List.getElem?_append_left hi] at hd
   exact h.r i y d hy hd
  ·have hlt := (List.getElem?_eq_some_iff.1 hd).1
   simp only [List.length_append, List.length_singleton] at hlt
   obtain rfl : i = vars.length := by omega
   rw [List.getElem?_append_right (by rw [h.len]; exact Nat.le_refl _), h.len, Nat.sub_self] at hy
   rw [List.getElem?_append_right (Nat.le_refl _), Nat.sub_self] at hd
   simp only [List.getElem?_cons_zero, Option.some.injEq] at hy hd
   subst hy hd
   exact ⟨h0, h1⟩
theorem QgP : ∀ {r : List Int} {s : List Int}, s ∈ stR r ↔ StateOK r.reverse s
 | [], s => by
  simp only [stR, List.mem_singleton, List.reverse_nil]
  constructor
  ·rintro rfl; exact ⟨rfl, by simp⟩
  ·intro h; exact List.eq_nil_of_length_eq_zero h.len
 | k :: r, s => by
  rw [List.reverse_cons, QdK]
  simp only [stR, QbB, List.mem_flatMap, List.mem_map, List.mem_range]
  constructor
  ·rintro ⟨s', hs', x, hx, rfl⟩
   exact ⟨s', (x : Int), Z, QgP.1 hs', by omega, by omega⟩
  ·rintro ⟨s', x, rfl, h, h0, h1⟩
   exact ⟨s', QgP.2 h, x.toNat, by omega, by rw [Int.toNat_of_nonneg h0]⟩
theorem Qbg {vars s : List Int} : s ∈ QG vars ↔ StateOK vars s := by
 unfold QG
 rw [QgP, List.reverse_reverse]
theorem QhO (l : List Int) : Yw l.reverse = Yw l := Qks (List.reverse_perm l)
theorem Qbh {vars : List Int} (h : ∀ x ∈ vars, 0 ≤ x) : ((QG vars).length : Int) = Yw vars := by
 unfold QG
 rw [QiH (fun x hx => h x (List.mem_reverse.1 hx)), QhO]
theorem Qgp {vars : List Int} (hv : ∀ n ∈ vars, 1 ≤ n ∧ n ≤ 64) (hn : vars.length ≤ 64) (hp : Yw vars ≤ 4096) : Yb vars = some (QG vars) := by
 unfold Yb
 refine Ok.eq (Ok.bind (J5 (fun i out => out = QG (vars.take i)) (by simp [QG, stR]) ?_ ?_))
 ·rintro i out hi rfl
  obtain ⟨k, hk⟩ := Ql hi
  have hkr := hv k (List.mem_of_getElem? hk)
  have hlen := Qbh (vars := vars.take i) fun x hx => by have := hv x (List.mem_of_mem_take hx); omega
  have hle := YJ (l := vars) (fun x hx => (hv x hx).1) i
  have hle2 := YJ (l := vars) (fun x hx => (hv x hx).1) (i + 1)
  have hmul : Yw (vars.take (i + 1)) = Yw (vars.take i) * k := by rw [Qu hk, QbF]; simp [Yw]
  have hstep : QG (vars.take (i + 1)) = QbB k (QG (vars.take i)) := by
   unfold QG
   rw [Qu hk, List.reverse_append, List.reverse_singleton, List.singleton_append]
   rfl
  have hel := QfC k (by omega) (QG (vars.take i))
  have hsl : ∀ s ∈ QG (vars.take i), s.length ≤ 64 := fun s hs => by
   have := (Qbg.1 hs).len
   rw [List.length_take] at this
   omega
  rw [hstep]
  generalize QG (vars.take i) = L at *
  simp only [Qj, hk, Option.bind_some]
  rw [Qc8 L (fun s => (List.range k.toNat).map fun (x : Nat) => s ++ [(x : Int)]) (s0 := [])]
  ·exact Ok.ret (by simp [QbB])
  ·intro j s u hj hu
   have hs := hsl s (List.mem_of_getElem? hj)
   have hjl := (List.getElem?_eq_some_iff.1 hj).1
   have hul : u.length ≤ 4096 * 64 := by
    rw [hu, List.nil_append]
    refine Nat.le_trans (Qdy (M := 64) fun x _ => by simp; omega) (Nat.mul_le_mul_right _ ?_)
    rw [List.length_take]
    omega
   have hm : must (decide (k ≤ 9223372036854775807)) = some () := by unfold must; rw [if_pos (by simp; omega)]
   simp only [hj, hm, Option.bind_some]
   rw [Qix k.toNat (fun (x : Nat) => [s ++ [(x : Int)]]) (s0 := u)]
   ·simp [Qd7]
   ·intro x w hx hw
    have hwl : w.length ≤ 4096 * 64 + 64 := by
     rw [hw, Qd7]
     simp
     omega
    rw [K4 (by simp; omega)]
    simp only [Option.bind_some, List.nil_append]
    rw [K4 (by simp; omega)]
    simp only [Option.bind_some]
    rw [K4 (by simp; omega)]
    rfl
 ·rintro out rfl
  rw [List.take_length]
  exact Ok.ret Z
/-! ### successors -/
open Classical in
noncomputable def Jm (effs : List Effect) (s : List Int) : List Int := effs.foldl (fun c e => if hold e.When s then c.set e.Var.toNat e.Val else c) s
open Classical in
theorem Qcq (effs : List Effect) (e : Effect) (s : List Int) : Jm (effs ++ [e]) s = if hold e.When s then (Jm effs s).set e.Var.toNat e.Val else Jm effs s := by simp [Jm]
theorem QaB {α : Type} {P : List α → Prop} (h0 : P []) (h1 : ∀ l x, P l → P (l ++ [x])) (l : List α) : P l := by
 have : ∀ r : List α, P r.reverse := by
  intro r
  induction r with
  | nil => exact h0
  | cons x r ih => rw [List.reverse_cons]; exact h1 _ _ ih
 have h := this l.reverse
 rwa [List.reverse_reverse] at h
theorem QaD {vars : List Int} {s : List Int} (hs : StateOK vars s) {effs : List Effect} : (∀ e ∈ effs, InR vars ⟨e.Var, e.Val⟩) → StateOK vars (Jm effs s) := by
 refine QaB (P := fun effs => (∀ e ∈ effs, InR vars ⟨e.Var, e.Val⟩) → StateOK vars (Jm effs s)) (fun _ => hs) ?_ effs
 intro l e ih h
 have h1 := ih fun e' he' => h e' (by simp [he'])
 have h2 := h e (by simp)
 rw [Qcq]
 by_cases hc : hold e.When s
 ·rw [if_pos hc]; exact h1.set h2.2.2.1 h2.2.2.2
 ·rw [if_neg hc]; exact h1
theorem QgC {vars : List Int} {s : List Int} (hs : StateOK vars s) {v : Int} (h0 : 0 ≤ v) (h1 : v < (vars.length : Int)) {effs : List Effect} : (∀ e ∈ effs, InR vars ⟨e.Var, e.Val⟩) → (Jm effs s)[v.toNat]? = some (Qdt effs v s) := by
 refine QaB (P := fun effs => (∀ e ∈ effs, InR vars ⟨e.Var, e.Val⟩) → (Jm effs s)[v.toNat]? = some (Qdt effs v s)) (fun _ => ?_) ?_ effs
 ·obtain ⟨x, hx, _⟩ := hs.at h0 h1
  simp [Jm, Qdt, hx]
 ·intro l e ih h
  have i1 := ih fun e' he' => h e' (by simp [he'])
  have h2 := h e (by simp)
  have hok := QaD hs (effs := l) fun e' he' => h e' (by simp [he'])
  have hlen := hok.len
  rw [Qcq, Qg7]
  by_cases hc : hold e.When s
  ·rw [if_pos hc]
   by_cases hv : e.Var = v
   ·rw [if_pos ⟨hv, hc⟩, hv, List.getElem?_set_self (by omega)]
   ·have := h2.1
    rw [if_neg (fun h => hv h.1), List.getElem?_set_ne (by simp only at this; omega)]
    exact i1
  ·rw [if_neg hc, if_neg (fun h => hc h.2)]
   exact i1
theorem QkG {t : Task} (ht : GoodT t) {i : Nat} {o : Op} (hi : t.Ops[i]? = some o) {s : List Int} (hs : StateOK t.Vars s) :
  Ok (YY t s (i : Int)) fun r => (hold o.Pre s → r = (Jm o.Effs s, true)) ∧ (¬ hold o.Pre s → r = ([], false)) := by
 classical
 have hop := ht.op o (List.mem_of_getElem? hi)
 have hlt := (List.getElem?_eq_some_iff.1 hi).1
 have hnv := ht.nv
 have hsl := hs.len
 unfold YY
 have a1 : ¬ ((i : Int) < 0) := by omega
 have a2 : ¬ ((t.Ops.length : Int) ≤ (i : Int)) := by omega
 simp only [a1, a2, decide_false, Bool.false_eq_true, if_false, Qj, hi, Option.bind_some, QgI hop.pre hsl]
 by_cases h : hold o.Pre s
 ·simp only [h, decide_true, Bool.not_true, Bool.false_eq_true, if_false]
  rw [K4 (by simp; omega)]
  simp only [Option.bind_some, List.nil_append]
  refine Ok.bind (J5 (fun j m => m = Jm (o.Effs.take j) s) (by simp [Jm]) ?_ ?_)
  ·rintro j m hj rfl
   obtain ⟨e, he⟩ := Ql hj
   have her := hop.eff e (List.mem_of_getElem? he)
   have hok := QaD hs (effs := o.Effs.take j) fun e' he' => (hop.eff e' (List.mem_of_mem_take he')).2
   have her2 := her.2
   unfold InR at her2
   simp only at her2
   have hlen := hok.len
   obtain ⟨y, hy, _⟩ := hok.at her2.1 her2.2.1
   simp only [Qj, he, Option.bind_some, QgI her.1 hsl]
   have i1 : QD (Jm (o.Effs.take j) s) e.Var = some y := by unfold QD; rw [if_pos her2.1, hy]
   have i2 : YO (Jm (o.Effs.take j) s) e.Var e.Val = some ((Jm (o.Effs.take j) s).set e.Var.toNat e.Val) := by unfold YO; rw [if_pos ⟨her2.1, by omega⟩]
   rw [Qu he, Qcq]
   by_cases hc : hold e.When s
   ·simp only [hc, decide_true, if_true, i1, i2, Option.bind_some]
    exact Ok.ret Z
   ·simp only [hc, decide_false, Bool.false_eq_true, if_false, Option.bind_some]
    exact Ok.ret Z
  ·rintro m rfl
   rw [List.take_length]
   exact Ok.ret ⟨fun _ => rfl, fun h' => absurd trivial h'⟩
 ·simp only [h, decide_false, Bool.not_false, if_true]
  exact Ok.ret ⟨fun h' => h'.elim, fun _ => rfl⟩
/-! ### small tasks -/
theorem Qkv {vars : List Int} (hv : ∀ n ∈ vars, 1 ≤ n ∧ n ≤ 64) {most : Int} (h0 : 64 ≤ most) (h1 : most ≤ 100000) : Ok (KI vars most) fun m => (Yw vars ≤ most ∧ m = Yw vars) ∨ (most < Yw vars ∧ m = most + 1) := by
 unfold KI
 rw [Q1 (n := most + 1) (by omega) (by omega)]
 refine Ok.ctl (fun i n => n = Yw (vars.take i) ∧ n ≤ most) (fun r => most < Yw vars ∧ r = most + 1) ⟨by simp [Yw], by omega⟩ ?_ ?_ ?_
 ·rintro i n hi ⟨h2, h3⟩
  obtain ⟨k, hk⟩ := Ql hi
  have hkr := hv k (List.mem_of_getElem? hk)
  have hpos := Qc2 (l := vars.take i) fun x hx => (hv x (List.mem_of_mem_take hx)).1
  rw [← h2] at hpos
  have hmul : Yw (vars.take (i + 1)) = n * k := by rw [Qu hk, QbF, ← h2]; simp [Yw]
  have hmm : min (max k 0) (most + 1) = k := by omega
  have b1 : n * k ≤ 100000 * 64 := Int.mul_le_mul (by omega) hkr.2 (by omega) (by omega)
  have b0 : 0 ≤ n * k := Int.mul_nonneg (by omega) (by omega)
  simp only [Qj, hk, Option.bind_some, hmm, Q1 (n := n * k) (by omega) (by omega)]
  by_cases h4 : most < n * k
  ·simp only [h4, decide_true, if_true]
   have := YJ (l := vars) (fun x hx => (hv x hx).1) (i + 1)
   exact Ok.ret ⟨by omega, Z⟩
  ·simp only [h4, decide_false, Bool.false_eq_true, if_false]
   exact Ok.ret ⟨hmul.symm, by omega⟩
 ·rintro r h
  exact Ok.ret (.inr h)
 ·rintro n ⟨h2, h3⟩
  rw [List.take_length] at h2
  exact Ok.ret (.inl ⟨by omega, h2⟩)
structure SmallT (t : Task) : Prop where
 g : GoodT t
 nv : t.Vars.length ≤ 12
 no : t.Ops.length ≤ 20
 ne : ∀ o ∈ t.Ops, o.Effs.length ≤ 8
 p : Yw t.Vars ≤ 512
open Classical in
theorem Qko (t : Task) : YW t = some (decide (SmallT t)) := by
 refine Ok.eq ?_
 unfold YW
 by_cases h1 : 12 < (t.Vars.length : Int)
 ·simp only [h1, decide_true, Bool.true_or, if_true]
  exact Ok.ret (by rw [eq_comm, decide_eq_false_iff_not]; intro h; have := h.nv; omega)
 by_cases h2 : 20 < (t.Ops.length : Int)
 ·simp only [h1, h2, decide_true, Bool.or_true, if_true]
  exact Ok.ret (by rw [eq_comm, decide_eq_false_iff_not]; intro h; have := h.no; omega)
 simp only [h1, h2, decide_false, Bool.or_self, Bool.false_eq_true, if_false]
 rw [Kb (r := false) (fun o => o.Effs.length ≤ 8)]
 ·by_cases h3 : ∀ o ∈ t.Ops, o.Effs.length ≤ 8
  ·rw [if_pos h3, Qmp]
   by_cases h4 : GoodT t
   ·obtain ⟨m, hm, hm2⟩ := Qkv h4.v (most := 512) (by omega) (by omega)
    simp only [h4, decide_true, if_true, Option.bind_some, hm]
    refine Ok.ret ?_
    rcases hm2 with ⟨h5, rfl⟩ | ⟨h5, rfl⟩
    ·rw [decide_eq_true h5, eq_comm, decide_eq_true_iff]
     exact ⟨h4, by omega, by omega, h3, h5⟩
    ·rw [decide_eq_false (by omega), eq_comm, decide_eq_false_iff_not]
     intro h; have := h.p; omega
   ·simp only [h4, decide_false, Bool.false_eq_true, if_false, Option.bind_some]
    exact Ok.ret (by rw [eq_comm, decide_eq_false_iff_not]; exact fun h => h4 h.g)
  ·rw [if_neg h3]
   exact Ok.ret (by rw [eq_comm, decide_eq_false_iff_not]; exact fun h => h3 h.ne)
 ·intro i o ho
  simp only [Qj, ho, Option.bind_some]
  by_cases h : 8 < (o.Effs.length : Int)
  ·have : ¬ o.Effs.length ≤ 8 := by omega
   simp [h, this]
  ·have : o.Effs.length ≤ 8 := by omega
   simp [h, this]
/-! from PwWaRk -/
theorem Qeg {α β : Type} {f : α → List β} {m : Nat} : ∀ {xs : List α}, (∀ x ∈ xs, (f x).length = m) → ∀ {r y : Nat} {x : α} {z : β}, xs[r]? = some x → (f x)[y]? = some z → (xs.flatMap f)[r * m + y]? = some z
 | [], _, r, _, _, _, hx, _ => by simp at hx
 | a :: xs, h, 0, y, x, z, hx, hz => by
  simp only [List.getElem?_cons_zero, Option.some.injEq] at hx
  subst hx
  have hlt := (List.getElem?_eq_some_iff.1 hz).1
  rw [List.flatMap_cons, Nat.zero_mul, Nat.zero_add, List.getElem?_append_left hlt]
  exact hz
 | a :: xs, h, r + 1, y, x, z, hx, hz => by
  have ha := h a (by simp)
  rw [List.flatMap_cons, List.getElem?_append_right (by rw [ha, Nat.succ_mul]; omega), ha, show (r + 1) * m + y - m = r * m + y by rw [Nat.succ_mul]; omega]
  exact Qeg (fun x hx => h x (by simp [hx])) (by simpa using hx) hz
theorem Qg2 {α β : Type} {f : α → List β} {m : Nat} : ∀ {xs : List α}, (∀ x ∈ xs, (f x).length = m) → (xs.flatMap f).length = xs.length * m
 | [], _ => by simp
 | a :: xs, h => by rw [List.flatMap_cons, List.length_append, h a (by simp), Qg2 fun x hx => h x (by simp [hx]), List.length_cons, Nat.succ_mul, Nat.add_comm]
def rkZ (l : List (Int × Int)) : Int := l.foldl (fun n p => n * p.1 + p.2) 0
def rk (vars s : List Int) : Int := rkZ (vars.zip s)
theorem Qil : rk [] [] = 0 := rfl
theorem QgQ {vars s : List Int} (h : s.length = vars.length) (k x : Int) : rk (vars ++ [k]) (s ++ [x]) = rk vars s * k + x := by
 unfold rk rkZ
 rw [List.zip_append (by omega)]
 simp
theorem StateOK.nil : StateOK [] [] := ⟨rfl, by simp⟩
theorem StateOK.eq_nil {s : List Int} (h : StateOK [] s) : s = [] := List.eq_nil_of_length_eq_zero h.len
theorem QdE (vars : List Int) (k : Int) : QG (vars ++ [k]) = QbB k (QG vars) := by
 unfold QG
 rw [List.reverse_append, List.reverse_singleton, List.singleton_append]
 rfl
theorem QgK {vars : List Int} : (∀ n ∈ vars, 1 ≤ n) → ∀ {s : List Int}, StateOK vars s → 0 ≤ rk vars s ∧ (QG vars)[(rk vars s).toNat]? = some s := by
 refine QaB (P := fun vars => (∀ n ∈ vars, 1 ≤ n) → ∀ {s : List Int}, StateOK vars s → 0 ≤ rk vars s ∧ (QG vars)[(rk vars s).toNat]? = some s) ?_ ?_ vars
 ·intro _ s hs
  rw [hs.eq_nil]
  exact ⟨by simp [Qil], by simp [Qil, QG, stR]⟩
 ·intro vars k ih h s hs
  obtain ⟨s', x, rfl, hs', h0, h1⟩ := QdK.1 hs
  obtain ⟨i0, i1⟩ := ih (fun n hn => h n (by simp [hn])) hs'
  have hk := h k (by simp)
  have hp : 0 ≤ rk vars s' * k := Int.mul_nonneg i0 (by omega)
  rw [QgQ hs'.len]
  refine ⟨by omega, ?_⟩
  rw [QdE]
  have := Qeg (f := fun s => (List.range k.toNat).map fun (x : Nat) => s ++ [(x : Int)]) (m := k.toNat) (xs := QG vars) (by simp) i1 (y := x.toNat) (z := s' ++ [x]) (by
   rw [List.getElem?_map, List.getElem?_range (by omega)]
   simp [Int.toNat_of_nonneg h0])
  have e : (rk vars s' * k + x).toNat = (rk vars s').toNat * k.toNat + x.toNat := by
   apply Int.ofNat.inj
   show (((rk vars s' * k + x).toNat : Nat) : Int) = (((rk vars s').toNat * k.toNat + x.toNat : Nat) : Int)
   rw [Int.natCast_add, Int.natCast_mul, Int.toNat_of_nonneg i0, Int.toNat_of_nonneg (by omega : 0 ≤ k), Int.toNat_of_nonneg h0, Int.toNat_of_nonneg (by omega)]
  rw [e]
  exact this
theorem Qdu {vars : List Int} (hv : ∀ n ∈ vars, 1 ≤ n) {s : List Int} (h : StateOK vars s) : 0 ≤ rk vars s ∧ rk vars s < Yw vars := by
 obtain ⟨h0, h1⟩ := QgK hv h
 have := (List.getElem?_eq_some_iff.1 h1).1
 have hl := Qbh (vars := vars) fun x hx => by have := hv x hx; omega
 omega
theorem QjL {vars : List Int} (hv : ∀ n ∈ vars, 1 ≤ n) {s s' : List Int} (h : StateOK vars s) (h' : StateOK vars s') (e : rk vars s = rk vars s') : s = s' := by
 have h1 := (QgK hv h).2
 have h2 := (QgK hv h').2
 rw [e, h2] at h1
 exact (Zu h1).symm
theorem Qlt {vars : List Int} : (∀ n ∈ vars, 1 ≤ n) → ∀ {i : Nat} {s : List Int}, (QG vars)[i]? = some s → rk vars s = (i : Int) := by
 refine QaB (P := fun vars => (∀ n ∈ vars, 1 ≤ n) → ∀ {i : Nat} {s : List Int}, (QG vars)[i]? = some s → rk vars s = (i : Int)) ?_ ?_ vars
 ·intro _ i s hs
  cases i with
  | zero =>
   simp only [QG, List.reverse_nil, stR, List.getElem?_cons_zero, Option.some.injEq] at hs
   subst hs
   rfl
  | succ i => simp [QG, stR] at hs
 ·intro vars k ih h i s hs
  have hk := h k (by simp)
  rw [QdE] at hs
  have hlt := (List.getElem?_eq_some_iff.1 hs).1
  have hlen : (QbB k (QG vars)).length = (QG vars).length * k.toNat := Qg2 (by simp)
  have hkp : 0 < k.toNat := by omega
  have hq : i / k.toNat < (QG vars).length := by
   rw [hlen] at hlt
   exact (Nat.div_lt_iff_lt_mul hkp).2 hlt
  obtain ⟨s', hs'⟩ := Ql hq
  have hm := Nat.mod_lt i hkp
  have := Qeg (f := fun s => (List.range k.toNat).map fun (x : Nat) => s ++ [(x : Int)]) (m := k.toNat) (xs := QG vars) (by simp) hs' (y := i % k.toNat) (z := s' ++ [((i % k.toNat : Nat) : Int)]) (by
   rw [List.getElem?_map, List.getElem?_range hm]
   simp)
  rw [Nat.div_add_mod'] at this
  rw [show ((QG vars).flatMap fun s => (List.range k.toNat).map fun (x : Nat) => s ++ [(x : Int)]) = QbB k (QG vars) from rfl, hs] at this
  have e := Zu this
  subst e
  have hr := ih (fun n hn => h n (by simp [hn])) hs'
  have hsl := (Qbg.1 (List.mem_of_getElem? hs')).len
  rw [QgQ hsl, hr]
  have hmod := Nat.div_add_mod' i k.toNat
  have hkk : ((k.toNat : Nat) : Int) = k := Int.toNat_of_nonneg (by omega)
  have hz : ((i / k.toNat : Nat) : Int) * k + ((i % k.toNat : Nat) : Int) = ((i / k.toNat * k.toNat + i % k.toNat : Nat) : Int) := by rw [Int.natCast_add, Int.natCast_mul, hkk]
  rw [hz, hmod]
theorem StateOK.take {vars s : List Int} (h : StateOK vars s) (m : Nat) : StateOK (vars.take m) (s.take m) := by
 refine ⟨by simp [h.len], fun i x d hx hd => ?_⟩
 rw [List.getElem?_take] at hx hd
 by_cases hi : i < m
 ·rw [if_pos hi] at hx hd
  exact h.r i x d hx hd
 ·rw [if_neg hi] at hx; cases hx
/-! from PwWaPL -/
theorem Qg3 {α β : Type} {f : α → List β} {m : Nat} (hf : ∀ g, (f g).length = m) : ∀ gs : List α, (gs.flatMap f).length = gs.length * m
 | [] => by simp
 | g :: gs => by rw [List.flatMap_cons, List.length_append, hf, Qg3 hf gs, List.length_cons, Nat.add_mul, Nat.one_mul, Nat.add_comm]
/-! from PwWaWe -/
theorem QcP {α : Type} : ∀ {C M : List α}, C.Nodup → (∀ x ∈ C, x ∈ M) → C.length ≤ M.length
 | [], _, _, _ => by simp
 | c :: C, M, hn, h => by
  classical
  obtain ⟨h1, h2⟩ := List.nodup_cons.1 hn
  have hm := h c (by simp)
  have := QcP (C := C) (M := M.erase c) h2 fun x hx => (List.mem_erase_of_ne (fun e => h1 (by rw [← e]; exact hx))).2 (h x (by simp [hx]))
  rw [List.length_erase_of_mem hm] at this
  have := List.length_pos_of_mem hm
  simp only [List.length_cons]
  omega
def cE (o : Op) : List Effect := o.Effs.filter fun e => !e.When.isEmpty
/-! from PwWaWd -/
theorem QiK {vars s : List Int} (hv : ∀ n ∈ vars, 1 ≤ n ∧ n ≤ 64) (hp : Yw vars ≤ 4096) (hs : StateOK vars s) : YK vars s = some (rk vars s) := by
 unfold YK
 refine Ok.eq (Ok.bind (J5 (fun i n => n = rk (vars.take i) (s.take i)) (by simp [Qil]) ?_ ?_))
 ·rintro i n hi rfl
  obtain ⟨x, hx⟩ := Ql hi
  obtain ⟨k, hk⟩ := Ql (xs := vars) (i := i) (by rw [← hs.len]; exact hi)
  have hkr := hv k (List.mem_of_getElem? hk)
  have hst := hs.take i
  have hst1 := hs.take (i + 1)
  have hpos : ∀ m, ∀ n ∈ vars.take m, 1 ≤ n := fun m n hn => (hv n (List.mem_of_mem_take hn)).1
  have h0 := Qdu (hpos i) hst
  have h1 := Qdu (hpos (i + 1)) hst1
  have hle := YJ (l := vars) (fun x hx => (hv x hx).1) i
  have hle1 := YJ (l := vars) (fun x hx => (hv x hx).1) (i + 1)
  have hsn : rk (vars.take (i + 1)) (s.take (i + 1)) = rk (vars.take i) (s.take i) * k + x := by
   rw [Qu hk, Qu hx, QgQ hst.len]
  have hxr := hs.r i x k hx hk
  have b1 : rk (vars.take i) (s.take i) * k ≤ 4096 * 64 := Int.mul_le_mul (by omega) hkr.2 (by omega) (by omega)
  have b0 : 0 ≤ rk (vars.take i) (s.take i) * k := Int.mul_nonneg h0.1 (by omega)
  rw [hsn]
  simp only [Qj, hk, hx, Option.bind_some]
  rw [Q1 (n := rk (vars.take i) (s.take i) * k) (by omega) (by omega), Q1 (by omega) (by omega)]
  exact Ok.ret Z
 ·rintro n rfl
  rw [List.take_length, hs.len, List.take_length]
  exact Ok.ret Z
def BA (t : Task) : QgH := fun v u w => ∃ (s : List Int) (i : Nat) (o : Op), StateOK t.Vars s ∧ t.Ops[i]? = some o ∧ hold o.Pre s ∧ w = o.Cost ∧ rk t.Vars (Jm o.Effs s) = (v : Int) ∧ rk t.Vars s = (u : Int)
def QgE (t : Task) : Nat → Prop := fun i => ∃ s, StateOK t.Vars s ∧ rk t.Vars s = (i : Int) ∧ hold t.Goal s
def BE (t : Task) (e : base_Edge) : Prop := ∃ (s : List Int) (i : Nat) (o : Op), StateOK t.Vars s ∧ t.Ops[i]? = some o ∧ hold o.Pre s ∧ e = ⟨rk t.Vars s, (i : Int), rk t.Vars (Jm o.Effs s)⟩
theorem Qk8 {t : Task} (ht : SmallT t) : Ok (YX t) fun L => ∀ e, e ∈ L ↔ BE t e := by
 have hno := ht.no
 have hp := ht.p
 have hv1 : ∀ n ∈ t.Vars, 1 ≤ n := fun n hn => (ht.g.v n hn).1
 unfold YX
 rw [Qgp ht.g.v ht.g.nv (by omega)]
 have hL := Qbh (vars := t.Vars) fun x hx => by have := ht.g.v x hx; omega
 have hLm : ∀ s, s ∈ QG t.Vars ↔ StateOK t.Vars s := fun s => Qbg
 have hLr : ∀ (i : Nat) s, (QG t.Vars)[i]? = some s → rk t.Vars s = (i : Int) := fun i s h => Qlt hv1 h
 generalize QG t.Vars = L at *
 simp only [Option.bind_some]
 refine Ok.bind (J5 (fun j E => (∀ e, e ∈ E ↔ ∃ (s : List Int) (i : Nat) (o : Op), s ∈ L.take j ∧ t.Ops[i]? = some o ∧ hold o.Pre s ∧ e = ⟨rk t.Vars s, (i : Int), rk t.Vars (Jm o.Effs s)⟩) ∧ E.length ≤ j * 20) ⟨by simp, by simp⟩ ?_ ?_)
 ·rintro j E hj ⟨f2, f3⟩
  obtain ⟨s, hs⟩ := Ql hj
  have hsm := List.mem_of_getElem? hs
  have hok := (hLm s).1 hsm
  have hrk := hLr j s hs
  simp only [Qj, hs, Option.bind_some]
  refine Ok.bind (J5 (fun i E' => (∀ e, e ∈ E' ↔ e ∈ E ∨ ∃ (k : Nat) (o : Op), k < i ∧ t.Ops[k]? = some o ∧ hold o.Pre s ∧ e = ⟨rk t.Vars s, (k : Int), rk t.Vars (Jm o.Effs s)⟩) ∧ E'.length ≤ E.length + i) ⟨fun e => ⟨fun h => .inl h, fun h => ?_⟩, by simp⟩ ?_ ?_)
  ·rcases h with h | ⟨k, _, hk, _⟩
   ·exact h
   ·omega
  ·rintro i E' hi ⟨g2, g3⟩
   obtain ⟨o, ho⟩ := Ql hi
   have hop := ht.g.op o (List.mem_of_getElem? ho)
   obtain ⟨r, hr, hr1, hr2⟩ := QkG ht.g ho hok
   rw [hr]
   simp only [Option.bind_some]
   have hnew : ∀ e : base_Edge, (∃ (k : Nat) (o' : Op), k < i + 1 ∧ t.Ops[k]? = some o' ∧ hold o'.Pre s ∧ e = ⟨rk t.Vars s, (k : Int), rk t.Vars (Jm o'.Effs s)⟩) ↔
     (∃ (k : Nat) (o' : Op), k < i ∧ t.Ops[k]? = some o' ∧ hold o'.Pre s ∧ e = ⟨rk t.Vars s, (k : Int), rk t.Vars (Jm o'.Effs s)⟩) ∨ (hold o.Pre s ∧ e = ⟨rk t.Vars s, (i : Int), rk t.Vars (Jm o.Effs s)⟩) := by
    intro e
    constructor
    ·rintro ⟨k, o', hk, ho', h2, h3⟩
     by_cases he : k = i
     ·subst he
      rw [ho] at ho'; cases ho'
      exact .inr ⟨h2, h3⟩
     ·exact .inl ⟨k, o', by omega, ho', h2, h3⟩
    ·rintro (⟨k, o', hk, ho', h⟩ | ⟨h2, rfl⟩)
     ·exact ⟨k, o', by omega, ho', h⟩
     ·exact ⟨i, o, by omega, ho, h2, Z⟩
   by_cases hh : hold o.Pre s
   ·rw [hr1 hh]
    have haok := QaD hok (effs := o.Effs) fun e he => (hop.eff e he).2
    simp only [QK, if_true, QiK ht.g.v (by omega) haok, Option.bind_some]
    rw [K4 (by simp only [List.length_singleton]; omega)]
    simp only [Option.bind_some]
    refine Ok.ret ⟨fun e => ?_, by simp; omega⟩
    rw [List.mem_append, List.mem_singleton, g2, hnew, ← hrk]
    constructor
    ·rintro ((h | h) | h)
     ·exact .inl h
     ·exact .inr (.inl h)
     ·exact .inr (.inr ⟨hh, h⟩)
    ·rintro (h | h | ⟨_, h⟩)
     ·exact .inl (.inl h)
     ·exact .inl (.inr h)
     ·exact .inr h
   ·rw [hr2 hh]
    simp only [QK, Bool.false_eq_true, if_false, Option.bind_some]
    refine Ok.ret ⟨fun e => ?_, by omega⟩
    rw [g2, hnew]
    constructor
    ·rintro (h | h)
     ·exact .inl h
     ·exact .inr (.inl h)
    ·rintro (h | h | ⟨h, _⟩)
     ·exact .inl h
     ·exact .inr h
     ·exact absurd h hh
  ·rintro E' ⟨g2, g3⟩
   refine Ok.ret ⟨fun e => ?_, by rw [Nat.succ_mul]; omega⟩
   rw [g2, f2, Qu hs]
   constructor
   ·rintro (⟨s', i, o, a1, a2⟩ | ⟨k, o, _, a1, a2⟩)
    ·exact ⟨s', i, o, List.mem_append_left _ a1, a2⟩
    ·exact ⟨s, k, o, by simp, a1, a2⟩
   ·rintro ⟨s', i, o, a1, a2, a3⟩
    rcases List.mem_append.1 a1 with a1 | a1
    ·exact .inl ⟨s', i, o, a1, a2, a3⟩
    ·simp only [List.mem_singleton] at a1; subst a1
     exact .inr ⟨i, o, (List.getElem?_eq_some_iff.1 a2).1, a2, a3⟩
 ·rintro E ⟨f2, f3⟩
  rw [List.take_length] at f2
  refine Ok.ret fun e => ?_
  rw [f2]
  unfold BE
  constructor
  ·rintro ⟨s, i, o, a1, a2⟩; exact ⟨s, i, o, (hLm s).1 a1, a2⟩
  ·rintro ⟨s, i, o, a1, a2⟩; exact ⟨s, i, o, (hLm s).2 a1, a2⟩
theorem QjW {t : Task} (ht : SmallT t) : AOK (BA t) (QgE t) (Yw t.Vars).toNat := by
 have hv1 : ∀ n ∈ t.Vars, 1 ≤ n := fun n hn => (ht.g.v n hn).1
 constructor
 ·rintro v u w ⟨s, i, o, hs, ho, hp, rfl, h1, h2⟩
  have hop := ht.g.op o (List.mem_of_getElem? ho)
  have haok := QaD hs (effs := o.Effs) fun e he => (hop.eff e he).2
  have := Qdu hv1 hs
  have := Qdu hv1 haok
  exact ⟨by omega, by omega, hop.c0, hop.c1⟩
 ·rintro i ⟨s, hs, h1, _⟩
  have := Qdu hv1 hs
  omega
theorem QkF {t : Task} (ht : SmallT t) : Ok (JG t) (SP (BA t) (QgE t) (Yw t.Vars).toNat) := by
 classical
 have hA := QjW ht
 have hI : (Inf : Int) = 1125899906842624 := rfl
 have hp := ht.p
 have hv1 : ∀ n ∈ t.Vars, 1 ≤ n := fun n hn => (ht.g.v n hn).1
 have hpp := Qc2 hv1
 obtain ⟨E, hE, hEm⟩ := Qk8 ht
 unfold JG
 rw [Qgp ht.g.v ht.g.nv (by omega)]
 have hL := Qbh (vars := t.Vars) fun x hx => by have := ht.g.v x hx; omega
 have hLm : ∀ s, s ∈ QG t.Vars ↔ StateOK t.Vars s := fun s => Qbg
 have hLr : ∀ (i : Nat) s, (QG t.Vars)[i]? = some s → rk t.Vars s = (i : Int) := fun i s h => Qlt hv1 h
 have hLg : ∀ s, StateOK t.Vars s → (QG t.Vars)[(rk t.Vars s).toNat]? = some s := fun s h => (QgK hv1 h).2
 generalize QG t.Vars = L at *
 have hn : (Yw t.Vars).toNat = L.length := by omega
 rw [hn] at hA ⊢
 simp only [Option.bind_some]
 refine Ok.step (Qlv (by omega) (by omega)) (Ok.bind ?_)
 refine J5 (fun i l => l.length = L.length ∧ ∀ j s, j < i → L[j]? = some s → l[j]? = some (if hold t.Goal s then 0 else Inf)) ⟨by simp, fun j s hj => by omega⟩ ?_ ?_
 ·rintro i l hi ⟨h1, h2⟩
  obtain ⟨s, hs⟩ := Ql hi
  have hok := (hLm s).1 (List.mem_of_getElem? hs)
  obtain ⟨y, hy⟩ := Ql (xs := l) (i := i) (by omega)
  simp only [Qj, hs, hy, Option.bind_some, YR (show i < l.length by omega), QgI ht.g.goal hok.len]
  by_cases hg : hold t.Goal s
  ·simp only [hg, decide_true, if_true]
   rw [List.getElem?_set_self (by omega)]
   simp only [Option.bind_some]
   rw [YR (by simp; omega)]
   refine Ok.ret ⟨by simp [h1], fun j s' hj hs' => ?_⟩
   by_cases e : j = i
   ·subst e
    rw [hs] at hs'; cases hs'
    rw [List.getElem?_set_self (by simp; omega), if_pos hg]
   ·rw [List.getElem?_set_ne (Ne.symm e), List.getElem?_set_ne (Ne.symm e)]
    exact h2 j s' (by omega) hs'
  ·simp only [hg, decide_false, Bool.false_eq_true, if_false, Option.bind_some]
   refine Ok.ret ⟨by simp [h1], fun j s' hj hs' => ?_⟩
   by_cases e : j = i
   ·subst e
    rw [hs] at hs'; cases hs'
    rw [List.getElem?_set_self (by omega), if_neg hg]
   ·rw [List.getElem?_set_ne (Ne.symm e)]
    exact h2 j s' (by omega) hs'
 rintro l0 ⟨hl1, hl2⟩
 have hD0 : Dst (BA t) (QgE t) L.length l0 := by
  have get : ∀ (i : Nat) (y : Int), l0[i]? = some y → ∃ s, L[i]? = some s ∧ y = if hold t.Goal s then 0 else Inf := by
   intro i y hy
   have hi := (List.getElem?_eq_some_iff.1 hy).1
   obtain ⟨s, hs⟩ := Ql (show i < L.length by omega)
   have := hl2 i s (by omega) hs
   rw [hy] at this
   exact ⟨s, hs, Zu this⟩
  refine ⟨hl1, fun i y hy => ?_, fun i hi => ?_, fun i y hy hlt => ?_⟩
  ·obtain ⟨s, hs, rfl⟩ := get i y hy
   split <;> omega
  ·obtain ⟨s, hs, hr, hg⟩ := hi
   have := hLg s hs
   rw [hr, Int.toNat_natCast] at this
   have h := hl2 i s (List.getElem?_eq_some_iff.1 this).1 this
   rw [h, if_pos hg]
  ·obtain ⟨s, hs, rfl⟩ := get i y hy
   by_cases hg : hold t.Goal s
   ·rw [if_pos hg]
    exact .base ⟨s, (hLm s).1 (List.mem_of_getElem? hs), hLr i s hs, hg⟩
   ·rw [if_neg hg] at hlt; omega
 refine Ok.step hE ?_
 refine QdC (fun s : Bool × List Int => Dst (BA t) (QgE t) L.length s.2 ∧ (s.1 = false → ∀ v, QkS (BA t) s.2 v)) (fun s => Dst (BA t) (QgE t) L.length s.2 ∧ ∀ v, QkS (BA t) s.2 v) (fun _ => False) (fun s => tot s.2 + (if s.1 then 1 else 0)) ⟨hD0, by simp⟩ ?_ (fun _ h => h.elim) ?_
 ·rintro ⟨ch, l⟩ ⟨hD, hcl⟩
  cases ch with
  | false => exact ⟨.brk (false, l), rfl, by simp, fun s' e => by cases e; exact ⟨hD, hcl rfl⟩, by simp⟩
  | true =>
   suffices hpass : Ok (forS (fun i101 => QK fun (changed101 : Bool) (l106 : (List Int)) => (QD E (i101 : Int)).bind fun x103 =>
     (QD t.Ops x103.Op).bind fun x104 =>
     ((QD l106 x103.To).bind fun x105 =>
     if decide (x105 < 1125899906842624) then ((QD l106 x103.From).bind fun x106 =>
     some (decide ((IntKind.i64.wrap (x105 + x104.Cost)) < x106)))
     else (some false)).bind (fun (z100 : Bool) => (if z100 then ((QD l106 x103.To).bind fun x107 =>
     (QD l106 x103.From).bind fun x108 =>
     (YO l106 x103.From (IntKind.i64.wrap (x107 + x104.Cost))).bind fun l107 =>
     some (true, l107))
     else (some (changed101, l106))).bind (QK fun (changed102 : Bool) (l108 : (List Int)) => some (changed102, l108)))) (E.length) 0 (false, l))
     (fun s => Dst (BA t) (QgE t) L.length s.2 ∧ (s.1 = true → tot s.2 < tot l) ∧ (s.1 = false → s.2 = l ∧ ∀ v, QkS (BA t) l v)) by
    obtain ⟨⟨ch', l'⟩, hr, h1, h2, h3⟩ := hpass
    refine ⟨.next (ch', l'), ?_, fun s' e => ?_, by simp, by simp⟩
    ·show ((forS _ _ 0 (false, l)).bind _) = _
     rw [hr]; rfl
    ·cases e
     cases ch' with
     | true => have := h2 rfl; exact ⟨⟨h1, by simp⟩, by simp; omega⟩
     | false =>
      obtain ⟨e, hc⟩ := h3 rfl
      simp only at e
      subst e
      exact ⟨⟨h1, fun _ => hc⟩, by simp⟩
   refine J5 (fun i s => Dst (BA t) (QgE t) L.length s.2 ∧ tot s.2 ≤ tot l ∧ (s.1 = true → tot s.2 < tot l) ∧ (s.1 = false → s.2 = l ∧ ∀ e ∈ E.take i, ∀ (v u k : Nat) (o : Op) (a b : Int), e = ⟨(u : Int), (k : Int), (v : Int)⟩ → t.Ops[k]? = some o → l[v]? = some a → l[u]? = some b → a < Inf → b ≤ a + o.Cost)) ?_ ?_ ?_
   ·exact ⟨hD, Nat.le_refl _, by simp, fun _ => ⟨Z, by simp⟩⟩
   ·rintro i ⟨ch, k⟩ hi ⟨h1, h2, h3, h4⟩
    simp only at h1 h2 h3 h4
    obtain ⟨d, hd⟩ := Ql hi
    have hdm := List.mem_of_getElem? hd
    obtain ⟨s, lb, o, hs, ho, hpre, rfl⟩ := (hEm d).1 hdm
    have hop := ht.g.op o (List.mem_of_getElem? ho)
    have haok := QaD hs (effs := o.Effs) fun e he => (hop.eff e he).2
    have r1 := Qdu hv1 hs
    have r2 := Qdu hv1 haok
    obtain ⟨f, hf⟩ : ∃ f : Nat, rk t.Vars s = (f : Int) := ⟨(rk t.Vars s).toNat, by omega⟩
    obtain ⟨g, hg⟩ : ∃ g : Nat, rk t.Vars (Jm o.Effs s) = (g : Int) := ⟨(rk t.Vars (Jm o.Effs s)).toNat, by omega⟩
    have harc : BA t g f o.Cost := ⟨s, lb, o, hs, ho, hpre, rfl, hg, hf⟩
    rw [hf, hg] at hd
    have hfl : f < L.length := by omega
    have hgl : g < L.length := by omega
    obtain ⟨a, ha⟩ := Ql (xs := k) (i := g) (by rw [h1.len]; exact hgl)
    obtain ⟨b, hb⟩ := Ql (xs := k) (i := f) (by rw [h1.len]; exact hfl)
    have ra := h1.rng g a ha
    have rb := h1.rng f b hb
    have c0 := hop.c0
    have c1 := hop.c1
    have hw : IntKind.i64.wrap (a + o.Cost) = a + o.Cost := Q1 (by omega) (by omega)
    have hmore : ∀ (hk : ch = false), ¬ (a < Inf ∧ a + o.Cost < b) → k = l ∧ ∀ e ∈ E.take (i + 1), ∀ (v u k : Nat) (o : Op) (a b : Int), e = ⟨(u : Int), (k : Int), (v : Int)⟩ → t.Ops[k]? = some o → l[v]? = some a → l[u]? = some b → a < Inf → b ≤ a + o.Cost := by
     intro hk hnot
     obtain ⟨e1, e2⟩ := h4 hk
     refine ⟨e1, ?_⟩
     intro e he v u kk o' a' b' hee ho' ha' hb' hlt
     rw [Qu hd] at he
     rcases List.mem_append.1 he with he | he
     ·exact e2 e he v u kk o' a' b' hee ho' ha' hb' hlt
     ·simp only [List.mem_singleton] at he
      subst he
      simp only [base_Edge.mk.injEq] at hee
      have g1 : lb = kk := by omega
      have g2 : g = v := by omega
      have g3 : f = u := by omega
      subst g1 g2 g3
      rw [ho] at ho'; cases ho'
      rw [e1] at ha hb
      rw [ha] at ha'; cases ha'
      rw [hb] at hb'; cases hb'
      omega
    simp only [QK, Qj, hd, ho, ha, hb, Option.bind_some, hw]
    by_cases hlt : a < 1125899906842624
    ·simp only [hlt, decide_true, if_true, Option.bind_some]
     by_cases hl2 : a + o.Cost < b
     ·simp only [hl2, decide_true, if_true, YR (show f < k.length by rw [h1.len]; exact hfl), Option.bind_some]
      have htt := QiE (l := k) (u := f) (y := b) (z := a + o.Cost) hb (by omega) hl2
      refine Ok.ret ⟨h1.set hA harc ha hb hl2, by simp only; omega, fun _ => by simp only; omega, by simp⟩
     ·simp only [hl2, decide_false, Bool.false_eq_true, if_false, Option.bind_some]
      exact Ok.ret ⟨h1, h2, h3, fun hk => hmore hk (fun hx => hl2 hx.2)⟩
    ·simp only [hlt, decide_false, Bool.false_eq_true, if_false, Option.bind_some]
     exact Ok.ret ⟨h1, h2, h3, fun hk => hmore hk (fun hx => hlt hx.1)⟩
   ·rintro ⟨ch, k⟩ ⟨h1, h2, h3, h4⟩
    refine ⟨h1, h3, fun hk => ⟨(h4 hk).1, ?_⟩⟩
    rintro v u w a b ⟨s, i, o, hs, ho, hpre, rfl, e1, e2⟩ hx hy hlt
    have h5 := (h4 hk).2
    rw [List.take_length] at h5
    exact h5 _ ((hEm _).2 ⟨s, i, o, hs, ho, hpre, Z⟩) v u i o a b (by rw [e1, e2]) ho hx hy hlt
 ·rintro ⟨ch, l⟩ ⟨h1, h2⟩
  exact Ok.ret { h1 with cl := h2 }
/-! from PwWaTm -/
structure TameT (t : Task) : Prop where
 s : SmallT t
 v : ∀ n ∈ t.Vars, 2 ≤ n ∧ n ≤ 4
 c : ∀ o ∈ t.Ops, (cE o).length ≤ 3
end Go.Pw
/- -/
set_option maxHeartbeats 8000000
namespace Go.Pw
def WP {S R : Type} (Inv Bp : S → Prop) (Rp : R → Prop) (μ : S → Nat) (s : S) : Ctl S R → Prop
 | .next s' => Inv s' ∧ μ s' < μ s
 | .brk s' => Bp s'
 | .ret r => Rp r
theorem QbC {S R β : Type} {B : S → Option (Ctl S R)} {s : S} {Q : β → Prop} {kr : R → Option β} {k : S → Option β} (Inv : S → Prop) (Bp : S → Prop) (Rp : R → Prop) (μ : S → Nat) (h0 : Inv s)
  (h : ∀ s, Inv s → Ok (B s) (WP Inv Bp Rp μ s)) (hr : ∀ r, Rp r → Ok (kr r) Q) (hb : ∀ s, Bp s → Ok (k s) Q) : Ok (Go.Pw.ctl (J7 B s) kr k) Q := by
 refine QdC Inv Bp Rp μ h0 (fun s hs => ?_) hr hb
 obtain ⟨c, h1, h2⟩ := h s hs
 exact ⟨c, h1, fun s' e => by subst e; exact h2, fun s' e => by subst e; exact h2, fun r e => by subst e; exact h2⟩
def QlN {S R : Type} (Inv Bp : S → Prop) (Rp : R → Prop) : Ctl S R → Prop
 | .next s => Inv s
 | .brk s => Bp s
 | .ret r => Rp r
theorem Qg1 {S R : Type} {B : Nat → S → Option (Ctl S R)} {n : Nat} (Inv : Nat → S → Prop) (Bp : S → Prop) (Rp : R → Prop) (h : ∀ j s, j < n → Inv j s → Ok (B j s) (QlN (Inv (j + 1)) Bp Rp)) :
  ∀ (k i : Nat) (s : S), i + k = n → Inv i s → Ok (QI B k i s) (QlN (Inv n) Bp Rp)
 | 0, i, s, hn, hi => ⟨.next s, rfl, by rw [← hn]; exact hi⟩
 | k + 1, i, s, hn, hi => by
  obtain ⟨c, h1, h2⟩ := h i s (by omega) hi
  cases c with
  | next s' =>
   obtain ⟨t, h3, h4⟩ := Qg1 Inv Bp Rp h k (i + 1) s' (by omega) h2
   exact ⟨t, by simp only [QI, h1, h3], h4⟩
  | brk s' => exact ⟨.brk s', by simp only [QI, h1], h2⟩
  | ret r => exact ⟨.ret r, by simp only [QI, h1], h2⟩
theorem QiZ {S R β : Type} {B : Nat → S → Option (Ctl S R)} {n : Nat} {s : S} {Q : β → Prop} {kr : R → Option β} {ks : S → Option β} (Inv : Nat → S → Prop) (Bp : S → Prop) (Rp : R → Prop) (h0 : Inv 0 s)
  (h : ∀ j s, j < n → Inv j s → Ok (B j s) (QlN (Inv (j + 1)) Bp Rp)) (hr : ∀ r, Rp r → Ok (kr r) Q) (hn : ∀ s, Inv n s → Ok (ks s) Q) (hb : ∀ s, Bp s → Ok (ks s) Q) : Ok (Go.Pw.ctl (QI B n 0 s) kr ks) Q := by
 obtain ⟨c, h1, h2⟩ := Qg1 Inv Bp Rp h n 0 s (by omega) h0
 unfold Go.Pw.ctl
 rw [h1]
 cases c with
 | next s => exact hn s h2
 | brk s => exact hb s h2
 | ret r => exact hr r h2
theorem QeW (a b : Int) : Qn a b = Qfe a b := by
 unfold Qn Qfe QW
 by_cases h1 : a < b <;> by_cases h2 : b < a <;> simp [h1, h2]
theorem or2 (a b : Int) : Ya [a, b] = some (if a ≠ 0 then a else b) := by
 unfold Ya
 by_cases h1 : a = 0 <;> by_cases h2 : b = 0 <;> simp [ctl, QI, h1, h2, QD]
theorem Qkw (a b : Fact) : Yg a b = some (Qbr a b) := by
 unfold Yg Qbr
 rw [QeW, QeW, or2]; rfl
theorem QhT (a b : Fact) : JA a b = some (Qbr a b) := by
 unfold JA Qbr
 rw [QeW, QeW, or2]; rfl
def FLt (a b : Fact) : Prop := a.Var < b.Var ∨ a.Var = b.Var ∧ a.Val < b.Val
theorem Qb2 (a b : Fact) : Qbr a b < 0 ↔ FLt a b := by
 unfold Qbr FLt
 by_cases h : a.Var = b.Var
 ·rw [if_neg (by rw [h]; simp [Qfe]), QhB]; omega
 ·rw [if_pos (fun e => h ((QcB _ _).1 e)), QhB]; omega
theorem QaC (a b : Fact) : Qbr a b = 0 ↔ a = b := by
 unfold Qbr
 obtain ⟨a1, a2⟩ := a
 obtain ⟨b1, b2⟩ := b
 by_cases h : a1 = b1
 ·subst h
  rw [if_neg (by simp [Qfe]), QcB]; simp
 ·rw [if_pos (fun e => h ((QcB _ _).1 e)), QcB]; simp [h]
def LLt : List Fact → List Fact → Prop
 | [], [] => False
 | [], _ :: _ => True
 | _ :: _, [] => False
 | a :: p, b :: q => FLt a b ∨ a = b ∧ LLt p q
theorem Qag : ∀ (p q : List Fact), K5 p q < 0 ↔ LLt p q
 | [], [] => by simp [K5, LLt]
 | [], _ :: _ => by simp [K5, LLt]
 | _ :: _, [] => by simp [K5, LLt]
 | a :: p, b :: q => by
  simp only [K5, LLt]
  by_cases h : Qbr a b = 0
  ·rw [if_neg (by simpa using h), Qag p q]
   have := (QaC a b).1 h
   subst this
   have : ¬ FLt a a := by unfold FLt; omega
   simp [this]
  ·rw [if_pos h, Qb2]
   have : ¬ a = b := fun e => h ((QaC a b).2 e)
   simp [this]
theorem QbJ : ∀ (p q : List Fact), K5 p q = 0 ↔ p = q
 | [], [] => by simp [K5]
 | [], _ :: _ => by simp [K5]
 | _ :: _, [] => by simp [K5]
 | a :: p, b :: q => by
  simp only [K5]
  by_cases h : Qbr a b = 0
  ·rw [if_neg (by simpa using h), QbJ p q]
   have := (QaC a b).1 h
   subst this
   simp
  ·rw [if_pos h]
   have : ¬ a = b := fun e => h ((QaC a b).2 e)
   simp [this, h]
theorem LLt.irrefl : ∀ p : List Fact, ¬ LLt p p
 | [] => fun h => h
 | a :: p => by
  rintro (h | ⟨_, h⟩)
  ·unfold FLt at h; omega
  ·exact LLt.irrefl p h
theorem FLt.trans {a b c : Fact} (h : FLt a b) (k : FLt b c) : FLt a c := by unfold FLt at *; omega
theorem LLt.trans : ∀ {p q r : List Fact}, LLt p q → LLt q r → LLt p r
 | [], [], _, h, _ => h.elim
 | [], _ :: _, [], _, k => k.elim
 | [], _ :: _, _ :: _, _, _ => trivial
 | _ :: _, [], _, h, _ => h.elim
 | _ :: _, _ :: _, [], _, k => k.elim
 | a :: p, b :: q, c :: r, h, k => by
  rcases h with h | ⟨rfl, h⟩ <;> rcases k with k | ⟨rfl, k⟩
  ·exact .inl (h.trans k)
  ·exact .inl h
  ·exact .inl k
  ·exact .inr ⟨Z, h.trans k⟩
theorem QeY : ∀ p q : List Fact, LLt p q ∨ p = q ∨ LLt q p
 | [], [] => .inr (.inl rfl)
 | [], _ :: _ => .inl trivial
 | _ :: _, [] => .inr (.inr trivial)
 | a :: p, b :: q => by
  rcases QeY p q with h | rfl | h
  ·by_cases e : a = b
   ·exact .inl (.inr ⟨e, h⟩)
   ·obtain ⟨a1, a2⟩ := a; obtain ⟨b1, b2⟩ := b
    have : FLt ⟨a1, a2⟩ ⟨b1, b2⟩ ∨ FLt ⟨b1, b2⟩ ⟨a1, a2⟩ := by unfold FLt; simp at e ⊢; omega
    rcases this with h | h
    ·exact .inl (.inl h)
    ·exact .inr (.inr (.inl h))
  ·by_cases e : a = b
   ·exact .inr (.inl (by rw [e]))
   ·obtain ⟨a1, a2⟩ := a; obtain ⟨b1, b2⟩ := b
    have : FLt ⟨a1, a2⟩ ⟨b1, b2⟩ ∨ FLt ⟨b1, b2⟩ ⟨a1, a2⟩ := by unfold FLt; simp at e ⊢; omega
    rcases this with h | h
    ·exact .inl (.inl h)
    ·exact .inr (.inr (.inl h))
  ·by_cases e : a = b
   ·exact .inr (.inr (.inr ⟨e.symm, h⟩))
   ·obtain ⟨a1, a2⟩ := a; obtain ⟨b1, b2⟩ := b
    have : FLt ⟨a1, a2⟩ ⟨b1, b2⟩ ∨ FLt ⟨b1, b2⟩ ⟨a1, a2⟩ := by unfold FLt; simp at e ⊢; omega
    rcases this with h | h
    ·exact .inl (.inl h)
    ·exact .inr (.inr (.inl h))
theorem Qhg (l p q : List Fact) : K5 (l ++ p) (l ++ q) = K5 p q := by
 induction l with
 | nil => rfl
 | cons a l ih => simp only [List.cons_append, K5]; rw [if_neg (by simpa using (QaC a a).2 rfl), ih]
theorem Qc9 {α : Type} {p : List α} {i : Nat} {x : α} (hx : p[i]? = some x) : p.drop i = x :: p.drop (i + 1) := by
 have h1 := List.getElem?_eq_some_iff.1 hx
 rw [List.drop_eq_getElem_cons h1.1, h1.2]
theorem QfH {p q : List Fact} {i : Nat} (h : p.take i = q.take i) : K5 p q = K5 (p.drop i) (q.drop i) := by
 have := Qhg (p.take i) (p.drop i) (q.drop i)
 rw [List.take_append_drop] at this
 rw [← this, h, List.take_append_drop]
theorem QfP (p q : List Fact) : KW p q = some (K5 p q) := by
 refine Ok.eq ?_
 unfold KW
 refine Ok.ctl (fun i _ => p.take i = q.take i ∧ i ≤ q.length) (fun r => r = K5 p q) ⟨by simp, Nat.zero_le _⟩ ?_ (fun r h => Ok.ret h) ?_
 ·rintro i _ hi ⟨h1, h2⟩
  obtain ⟨x, hx⟩ := Ql (xs := p) (i := i) (by omega)
  rw [Qj, hx]
  simp only [Option.bind_some]
  have hd := QfH h1
  rw [Qc9 hx] at hd
  by_cases hq : q.length ≤ i
  ·have hq' : (q.length : Int) ≤ (i : Int) := by omega
   have e : q.drop i = [] := List.drop_of_length_le hq
   rw [e] at hd
   simp only [hq', decide_true, if_true]
   exact Ok.ret (by rw [hd]; rfl)
  ·have hq' : ¬ (q.length : Int) ≤ (i : Int) := by omega
   obtain ⟨y, hy⟩ := Ql (xs := q) (i := i) (by omega)
   rw [Qc9 hy] at hd
   simp only [hq', decide_false, Bool.false_eq_true, if_false, Qj, hy, Option.bind_some, QhT]
   by_cases hc : Qbr x y = 0
   ·have e := (QaC x y).1 hc
    simp only [hc, decide_true, Bool.not_true, Bool.false_eq_true, if_false]
    exact Ok.ret ⟨by rw [Qu hx, Qu hy, h1, e], by omega⟩
   ·simp only [hc, decide_false, Bool.not_false, if_true]
    have hd' : Qbr x y = K5 p q := by rw [hd]; simp [K5, hc]
    exact Ok.ret hd'
 ·rintro _ ⟨h1, h2⟩
  have hd := QfH h1
  rw [List.drop_of_length_le (Nat.le_refl p.length)] at hd
  by_cases h : p.length < q.length
  ·obtain ⟨y, hy⟩ := Ql (xs := q) (i := p.length) h
   rw [Qc9 hy] at hd
   have h' : (p.length : Int) < (q.length : Int) := by omega
   simp only [h', decide_true, if_true]
   exact Ok.ret (by rw [hd]; rfl)
  ·have e : q.drop p.length = [] := List.drop_of_length_le (by omega)
   rw [e] at hd
   have h' : ¬ (p.length : Int) < (q.length : Int) := by omega
   simp only [h', decide_false, Bool.false_eq_true, if_false]
   exact Ok.ret (by rw [hd]; rfl)
theorem QbI (p q : List Fact) : Jv p q = some (K5 p q) := by
 unfold Jv
 rw [QfP]; rfl
theorem QaH {p : List Fact} (h : p.length ≤ 1000000) : Jz p = some p := by
 unfold Jz
 rw [K4 (by simp; omega)]; simp
theorem Qj3 {p : List Fact} (h : p.length ≤ 1000000) : Y5 p = some p := by
 unfold Y5
 rw [K4 (by simp; omega)]; simp
structure PV (p : List Fact) : Prop where
 n : ∀ f ∈ p, 0 ≤ f.Var ∧ 0 ≤ f.Val
 o : p.Pairwise fun a b => a.Var < b.Var
theorem FactsOK.pv {vars : List Int} {p : List Fact} (h : FactsOK vars p) : PV p := ⟨fun f hf => ⟨(h.r f hf).1, (h.r f hf).2.2.1⟩, h.o⟩
theorem Qgo {l : List Fact} (hn : ∀ (k : Nat) a b, l[k]? = some a → l[k + 1]? = some b → a.Var < b.Var) : l.Pairwise fun a b => a.Var < b.Var := by
 rw [List.pairwise_iff_getElem]
 have key : ∀ d i (hi : i < l.length) (hj : i + d + 1 < l.length), l[i].Var < l[i + d + 1].Var := by
  intro d
  induction d with
  | zero => intro i hi hj; exact hn i _ _ (List.getElem?_eq_getElem hi) (List.getElem?_eq_getElem hj)
  | succ d ih =>
   intro i hi hj
   have h1 := ih i hi (by omega)
   have h2 := hn (i + d + 1) _ _ (List.getElem?_eq_getElem (by omega)) (List.getElem?_eq_getElem (by omega : i + d + 1 + 1 < l.length))
   exact Int.lt_trans h1 h2
 intro i j hi hj hij
 have := key (j - i - 1) i hi (by omega)
 simpa [show i + (j - i - 1) + 1 = j by omega] using this
open Classical in
theorem PV.all (p : List Fact) : ((List.range p.length).all fun j => decide (∀ x : Fact, p[j]? = some x → 0 ≤ x.Var ∧ 0 ≤ x.Val ∧ ∀ a : Fact, 0 < j → p[j - 1]? = some a → a.Var < x.Var)) = decide (PV p) := by
 rw [Bool.eq_iff_iff, List.all_eq_true, decide_eq_true_eq]
 constructor
 ·intro h
  have h' : ∀ (j : Nat) (x : Fact), p[j]? = some x → 0 ≤ x.Var ∧ 0 ≤ x.Val ∧ ∀ a : Fact, 0 < j → p[j - 1]? = some a → a.Var < x.Var := fun j x hx => of_decide_eq_true (h j (by simpa using (List.getElem?_eq_some_iff.1 hx).1)) x hx
  refine ⟨fun f hf => ?_, Qgo fun k a b ha hb => ?_⟩
  ·obtain ⟨j, hj⟩ := List.mem_iff_getElem?.1 hf
   exact ⟨(h' j f hj).1, (h' j f hj).2.1⟩
  ·exact (h' (k + 1) b hb).2.2 a (by omega) (by simpa using ha)
 ·intro h j hj
  rw [decide_eq_true_eq]
  intro x hx
  have hm := List.mem_of_getElem? hx
  refine ⟨(h.n x hm).1, (h.n x hm).2, fun a h0 ha => ?_⟩
  have h1 := List.getElem?_eq_some_iff.1 hx
  have h2 := List.getElem?_eq_some_iff.1 ha
  have := List.pairwise_iff_getElem.1 h.o (j - 1) j h2.1 h1.1 (by omega)
  rw [h1.2, h2.2] at this
  exact this
open Classical in
theorem Qir (p : List Fact) (hl : p.length ≤ 1000000) (j : Nat) (hj : j < p.length) :
  ((QD p (j : Int)).bind fun x100 =>
  (if decide (x100.Var < 0) then (some true)
  else (if decide (x100.Val < 0) then (some true)
  else (if decide (0 < (j : Int)) then ((QD p (IntKind.i64.wrap ((j : Int) - 1))).bind fun x101 =>
  some (decide (x100.Var ≤ x101.Var)))
  else (some false)))).bind (fun (z100 : Bool) => if z100 then (some (Ctl.ret false))
  else (some (Ctl.next ())))) = some (if decide (∀ x : Fact, p[j]? = some x → 0 ≤ x.Var ∧ 0 ≤ x.Val ∧ ∀ a : Fact, 0 < j → p[j - 1]? = some a → a.Var < x.Var) then (Ctl.next () : Ctl Unit Bool) else .ret false) := by
 obtain ⟨x, hx⟩ := Ql hj
 rw [Qj, hx]
 simp only [Option.bind_some, Option.some.injEq, forall_eq']
 by_cases h1 : x.Var < 0
 ·have : ¬ (0 ≤ x.Var) := by omega
  simp [h1, this]
 by_cases h2 : x.Val < 0
 ·have : ¬ (0 ≤ x.Val) := by omega
  simp [h1, h2, this]
 have e1 : 0 ≤ x.Var := by omega
 have e2 : 0 ≤ x.Val := by omega
 by_cases h3 : j = 0
 ·subst h3; simp [h1, h2, e1, e2]
 have hw : IntKind.i64.wrap ((j : Int) - 1) = ((j - 1 : Nat) : Int) := by rw [Q1 (by omega) (by omega)]; omega
 obtain ⟨a, ha⟩ := Ql (xs := p) (i := j - 1) (by omega)
 have h4 : 0 < j := by omega
 have h5 : (0 : Int) < (j : Int) := by omega
 simp only [h1, h2, e1, e2, h4, h5, hw, Qj, ha, decide_true, decide_false, Bool.false_eq_true, if_false, if_true, true_and, Option.bind_some, Option.some.injEq, forall_eq', true_implies]
 by_cases h6 : x.Var ≤ a.Var
 ·have : ¬ a.Var < x.Var := by omega
  simp [h6, this]
 ·have : a.Var < x.Var := by omega
  simp [h6, this]
open Classical in
theorem QaG (p : List Fact) (hl : p.length ≤ 1000000) : Jf p = some (decide (PV p)) := by
 unfold Jf
 rw [QgW (fun j hj => Qir p hl j hj), PV.all]
 by_cases h : PV p <;> simp [h]
open Classical in
theorem Qjl (p : List Fact) (hl : p.length ≤ 1000000) : Yf p = some (decide (PV p)) := QaG p hl
def YP (p : List Fact) (v : Int) : Int := ((p.find? fun f => decide (f.Var = v)).map (·.Val)).getD (-1)
theorem QgU (p : List Fact) (v : Int) : Kc p v = some (YP p v) := by
 unfold Kc
 have key : ∀ (k i : Nat), i + k = p.length → (∀ f ∈ p.take i, ¬ f.Var = v) →
   ctl (QI (R := Int) (fun i100 => fun (_ : Unit) => (QD p (i100 : Int)).bind fun x100 =>
    if decide (x100.Var = v) then (some (Ctl.ret x100.Val)) else (some (Ctl.next ()))) k i ()) (fun r => some r) (fun (_ : Unit) => some (-1)) = some (YP p v) := by
  intro k
  induction k with
  | zero =>
   intro i hk h
   rw [List.take_of_length_le (by omega)] at h
   have : p.find? (fun f => decide (f.Var = v)) = none := by
    rw [List.find?_eq_none]; intro f hf; simpa using h f hf
   simp [QI, ctl, YP, this]
  | succ k ih =>
   intro i hk h
   obtain ⟨x, hx⟩ := Ql (xs := p) (i := i) (by omega)
   simp only [QI, Qj, hx, Option.bind_some]
   by_cases hv : x.Var = v
   ·have h1 := List.getElem?_eq_some_iff.1 hx
    have e : p = p.take i ++ x :: p.drop (i + 1) := by
     rw [← h1.2, List.getElem_cons_drop, List.take_append_drop]
    have : p.find? (fun f => decide (f.Var = v)) = some x := by
     rw [e, List.find?_append, (List.find?_eq_none.2 (by intro f hf; simpa using h f hf)), List.find?_cons]
     simp [hv]
    simp [hv, ctl, YP, this]
   ·simp only [hv, decide_false, Bool.false_eq_true, if_false]
    refine ih (i + 1) (by omega) ?_
    rw [Qu hx]
    intro f hf
    rcases List.mem_append.1 hf with h1 | h1
    ·exact h f h1
    ·have : f = x := by simpa using h1
     rw [this]; exact hv
 exact key p.length 0 (by omega) (by simp)
theorem PV.uniq {p : List Fact} (h : PV p) {f g : Fact} (hf : f ∈ p) (hg : g ∈ p) (e : f.Var = g.Var) : f = g := by
 obtain ⟨i, hi⟩ := List.mem_iff_getElem?.1 hf
 obtain ⟨j, hj⟩ := List.mem_iff_getElem?.1 hg
 have h1 := List.getElem?_eq_some_iff.1 hi
 have h2 := List.getElem?_eq_some_iff.1 hj
 rcases Nat.lt_trichotomy i j with hij | hij | hij
 ·have := List.pairwise_iff_getElem.1 h.o i j h1.1 h2.1 hij
  rw [h1.2, h2.2] at this; omega
 ·subst hij; rw [hi] at hj; exact Zu hj
 ·have := List.pairwise_iff_getElem.1 h.o j i h2.1 h1.1 hij
  rw [h1.2, h2.2] at this; omega
theorem Qeh {p : List Fact} (h : PV p) {f : Fact} (hf : f ∈ p) : YP p f.Var = f.Val := by
 unfold YP
 cases hc : p.find? (fun g => decide (g.Var = f.Var)) with
 | none => exact absurd hf (fun _ => by have := List.find?_eq_none.1 hc f hf; simp at this)
 | some g =>
  have h1 := List.mem_of_find?_eq_some hc
  have h2 := List.find?_some hc
  have := h.uniq h1 hf (by simpa using h2)
  subst this; rfl
theorem Qiy {p : List Fact} {v : Int} (h : ∀ f ∈ p, ¬ f.Var = v) : YP p v = -1 := by
 unfold YP
 rw [List.find?_eq_none.2 (by intro f hf; simpa using h f hf)]; rfl
theorem Qe7 {p : List Fact} (h : PV p) (v : Int) : (∃ f ∈ p, f.Var = v ∧ YP p v = f.Val ∧ 0 ≤ f.Val) ∨ ((∀ f ∈ p, ¬ f.Var = v) ∧ YP p v = -1) := by
 by_cases hx : ∃ f ∈ p, f.Var = v
 ·obtain ⟨f, hf, rfl⟩ := hx
  exact .inl ⟨f, hf, Z, Qeh h hf, (h.n f hf).2⟩
 ·have : ∀ f ∈ p, ¬ f.Var = v := fun f hf e => hx ⟨f, hf, e⟩
  exact .inr ⟨this, Qiy this⟩
theorem Qk2 {p : List Fact} (h : PV p) {f : Fact} (hf : 0 ≤ f.Val) : YP p f.Var = f.Val ↔ f ∈ p := by
 constructor
 ·intro e
  rcases Qe7 h f.Var with ⟨g, hg, h1, h2, _⟩ | ⟨_, h2⟩
  ·have : g = f := by obtain ⟨a, b⟩ := g; obtain ⟨c, d⟩ := f; simp at h1 h2 e ⊢; omega
   rw [← this]; exact hg
  ·omega
 ·exact Qeh h
def SubF (b a : List Fact) : Prop := ∀ f ∈ b, f ∈ a
open Classical in
theorem Qbi {a b : List Fact} (ha : PV a) (hb : ∀ f ∈ b, 0 ≤ f.Val) : Jp a b = some (decide (SubF b a)) := by
 unfold Jp
 rw [Kb (fun f => f ∈ a) (xs := b) (r := false)]
 ·by_cases h : ∀ x ∈ b, x ∈ a
  ·rw [if_pos h, show decide (SubF b a) = true from decide_eq_true h]
  ·rw [if_neg h, show decide (SubF b a) = false from decide_eq_false h]
 ·intro i x hx
  rw [Qj, hx]
  simp only [Option.bind_some, QgU]
  have := Qk2 ha (hb x (List.mem_of_getElem? hx))
  by_cases h : x ∈ a
  ·simp [h, this.2 h]
  ·have h' : ¬ YP a x.Var = x.Val := fun e => h (this.1 e)
   simp [h, h']
open Classical in
theorem Qib {a b : List Fact} (ha : PV a) (hb : PV b) (hla : a.length ≤ 1000000) (hlb : b.length ≤ 1000000) : Kf a b = some (decide (SubF b a)) := by
 unfold Kf
 rw [QaG a hla, QaG b hlb, Qbi ha fun f hf => (hb.n f hf).2]
 simp [ha, hb]
open Classical in
theorem QeC {a b : List Fact} (ha : PV a) : Ok (Ke a b) fun r => r = false ∨ ∃ f ∈ b, ∃ g ∈ a, g.Var = f.Var ∧ g.Val ≠ f.Val := by
 unfold Ke
 refine Ok.ctl (fun _ _ => True) (fun r => r = true ∧ ∃ f ∈ b, ∃ g ∈ a, g.Var = f.Var ∧ g.Val ≠ f.Val) trivial ?_ (fun r h => Ok.ret (.inr h.2)) (fun _ _ => Ok.ret (.inl Z))
 intro i _ hi _
 obtain ⟨x, hx⟩ := Ql (xs := b) (i := i) (by omega)
 rw [Qj, hx]
 simp only [Option.bind_some, QgU]
 by_cases h : ((decide (0 ≤ YP a x.Var)) && !decide (YP a x.Var = x.Val)) = true
 ·rw [if_pos h]
  simp only [Bool.and_eq_true, decide_eq_true_eq, Bool.not_eq_true', decide_eq_false_iff_not] at h
  refine Ok.ret ⟨Z, x, List.mem_of_getElem? hx, ?_⟩
  rcases Qe7 ha x.Var with ⟨g, hg, h1, h2, _⟩ | ⟨_, h2⟩
  ·exact ⟨g, hg, h1, fun e => h.2 (by rw [h2, e])⟩
  ·omega
 ·rw [if_neg h]
  exact Ok.ret trivial
end Go.Pw
