/- -/
import Derived.Test.YtpjojkomdndamaaGreatDoorMxTa
set_option maxHeartbeats 4000000
set_option linter.unusedSimpArgs false
set_option linter.unusedVariables false
namespace Go.Pw
abbrev Inf : Int := 1125899906842624
abbrev Qhw := Nat → Nat → Int → Prop
inductive Reach (A : Qhw) (src : Nat → Prop) : Nat → Int → Prop
 | base {i : Nat} : src i → Reach A src i 0
 | step {v u : Nat} {c w : Int} : Reach A src v c → A v u w → Reach A src u (c + w)
structure AOK (A : Qhw) (src : Nat → Prop) (n : Nat) : Prop where
 a : ∀ v u w, A v u w → v < n ∧ u < n ∧ 0 ≤ w ∧ w ≤ 1048576
 s : ∀ i, src i → i < n
structure Dst (A : Qhw) (src : Nat → Prop) (n : Nat) (l : List Int) : Prop where
 len : l.length = n
 rng : ∀ (i : Nat) (x : Int), l[i]? = some x → 0 ≤ x ∧ x ≤ Inf
 s0 : ∀ (i : Nat), src i → l[i]? = some 0
 re : ∀ (i : Nat) (x : Int), l[i]? = some x → x < Inf → Reach A src i x
def Qih (A : Qhw) (l : List Int) (v : Nat) : Prop := ∀ (u : Nat) (w x y : Int), A v u w → l[v]? = some x → l[u]? = some y → x < Inf → y ≤ x + w
structure SP (A : Qhw) (src : Nat → Prop) (n : Nat) (l : List Int) : Prop extends Dst A src n l where
 cl : ∀ v, Qih A l v
section
variable {A : Qhw} {src : Nat → Prop} {n : Nat} {l k : List Int}
theorem Reach.pos (hA : AOK A src n) {i : Nat} {c : Int} (h : Reach A src i c) : 0 ≤ c := by
 induction h with
 | base _ => exact Int.le_refl _
 | step _ h ih => have := (hA.a _ _ _ h).2.2.1; omega
theorem SP.le (hA : AOK A src n) (h : SP A src n l) {i : Nat} {c : Int} (hr : Reach A src i c) : c < Inf → ∃ y, l[i]? = some y ∧ y ≤ c := by
 induction hr with
 | base hs => exact fun _ => ⟨0, h.s0 _ hs, Int.le_refl _⟩
 | @step v u c w hr ha ih =>
  intro hc
  obtain ⟨_, hu, hw, _⟩ := hA.a _ _ _ ha
  have := hr.pos hA
  obtain ⟨x, hx, hxc⟩ := ih (by omega)
  obtain ⟨y, hy⟩ : ∃ y, l[u]? = some y := ⟨l[u]'(by rw [h.len]; exact hu), by simp [h.len, hu]⟩
  have := h.cl v u w x y ha hx hy (by omega)
  exact ⟨y, hy, by omega⟩
theorem SP.uniq (hA : AOK A src n) (h : SP A src n l) (h' : SP A src n k) : l = k := by
 apply List.ext_getElem?
 intro i
 by_cases hi : i < n
 ·obtain ⟨x, hx⟩ : ∃ x, l[i]? = some x := ⟨l[i]'(by rw [h.len]; exact hi), by simp [h.len, hi]⟩
  obtain ⟨y, hy⟩ : ∃ y, k[i]? = some y := ⟨k[i]'(by rw [h'.len]; exact hi), by simp [h'.len, hi]⟩
  have r1 := h.rng i x hx
  have r2 := h'.rng i y hy
  have h1 : x < Inf → y ≤ x := by
   intro hlt
   obtain ⟨y', hy', hle⟩ := h'.le hA (h.re i x hx hlt) hlt
   rw [hy] at hy'; cases hy'; exact hle
  have h2 : y < Inf → x ≤ y := by
   intro hlt
   obtain ⟨x', hx', hle⟩ := h.le hA (h'.re i y hy hlt) hlt
   rw [hx] at hx'; cases hx'; exact hle
  rw [hx, hy]
  have : x = y := by
   by_cases a : x < Inf
   ·have := h1 a; have := h2 (by omega); omega
   ·by_cases b : y < Inf
    ·have := h2 b; omega
    ·omega
  rw [this]
 ·rw [List.getElem?_eq_none (by rw [h.len]; omega), List.getElem?_eq_none (by rw [h'.len]; omega)]
theorem Dst.set (hA : AOK A src n) (h : Dst A src n l) {v u : Nat} {w x y : Int} (ha : A v u w) (hx : l[v]? = some x) (hy : l[u]? = some y) (hlt : x + w < y) : Dst A src n (l.set u (x + w)) := by
 obtain ⟨_, hu, hw, _⟩ := hA.a _ _ _ ha
 have rx := h.rng v x hx
 have ry := h.rng u y hy
 have hul : u < l.length := by rw [h.len]; exact hu
 refine ⟨by simp [h.len], fun i z hz => ?_, fun i hi => ?_, fun i z hz hzi => ?_⟩
 ·by_cases e : u = i
  ·subst e
   rw [List.getElem?_set_self hul] at hz
   cases hz; omega
  ·rw [List.getElem?_set_ne e] at hz; exact h.rng i z hz
 ·by_cases e : u = i
  ·subst e
   have := h.s0 u hi
   rw [hy] at this; cases this; omega
  ·rw [List.getElem?_set_ne e]; exact h.s0 i hi
 ·by_cases e : u = i
  ·subst e
   rw [List.getElem?_set_self hul] at hz
   cases hz
   exact .step (h.re v x hx (by omega)) ha
  ·rw [List.getElem?_set_ne e] at hz; exact h.re i z hz hzi
end
def tot (l : List Int) : Nat := (l.map Int.toNat).sum
theorem Qh7 : ∀ {l : List Int} {u : Nat} {y z : Int}, l[u]? = some y → 0 ≤ z → z < y → tot (l.set u z) < tot l
 | [], u, y, z, h, _, _ => by simp at h
 | a :: l, 0, y, z, h, h0, h1 => by
  simp only [List.getElem?_cons_zero, Option.some.injEq] at h
  subst h
  simp only [tot, List.set_cons_zero, List.map_cons, List.sum_cons]
  omega
 | a :: l, u + 1, y, z, h, h0, h1 => by
  have := Qh7 (l := l) (u := u) (y := y) (z := z) (by simpa using h) h0 h1
  simp only [tot, List.set_cons_succ, List.map_cons, List.sum_cons] at *
  omega
theorem nodup_short' : ∀ {n : Nat} {L : List Nat}, L.Nodup → (∀ x ∈ L, x < n) → L.length ≤ n
 | 0, L, _, h => by
  cases L with
  | nil => simp
  | cons a L => have := h a (by simp); omega
 | n + 1, L, hn, h => by
  have h1 : (L.filter fun x => decide (x ≠ n)).length ≤ n := nodup_short' (hn.sublist List.filter_sublist) (by
   intro x hx
   simp only [List.mem_filter, decide_eq_true_eq] at hx
   have := h x hx.1
   omega)
  have h2 : L.length ≤ (L.filter fun x => decide (x ≠ n)).length + 1 := by
   clear h h1
   induction L with
   | nil => simp
   | cons a L ih =>
    obtain ⟨ha, hL⟩ := List.nodup_cons.1 hn
    by_cases e : a = n
    ·subst e
     have : (L.filter fun x => decide (x ≠ a)) = L := by
      apply List.filter_eq_self.2
      intro x hx
      simp only [decide_eq_true_eq]
      rintro rfl; exact ha hx
     have e2 : ((a :: L).filter fun x => decide (x ≠ a)) = L.filter fun x => decide (x ≠ a) := by rw [List.filter_cons]; simp
     rw [e2, this]; simp
    ·have := ih hL
     simp only [List.filter_cons, ne_eq, e, not_false_eq_true, decide_true, if_true, List.length_cons] at *
     omega
  omega
end Go.Pw
/- -/
set_option maxHeartbeats 4000000
namespace Go.Pw
def InR (vars : List Int) (x : Fact) : Prop := 0 ≤ x.Var ∧ x.Var < (vars.length : Int) ∧ 0 ≤ x.Val ∧ x.Val < vars[x.Var.toNat]?.getD 0
structure FactsOK (vars : List Int) (f : List Fact) : Prop where
 r : ∀ x ∈ f, InR vars x
 o : f.Pairwise fun a b => a.Var < b.Var
structure OpOK (vars : List Int) (o : Op) : Prop where
 c0 : 0 ≤ o.Cost
 c1 : o.Cost ≤ 1048576
 ne : o.Effs.length ≤ 64
 nm : o.Name.size ≤ 256
 ch : ∀ c ∈ JW o.Name, 32 ≤ c ∧ c ≤ 126
 pre : FactsOK vars o.Pre
 eff : ∀ e ∈ o.Effs, FactsOK vars e.When ∧ InR vars ⟨e.Var, e.Val⟩
structure StateOK (vars s : List Int) : Prop where
 len : s.length = vars.length
 r : ∀ (i : Nat) (x d : Int), s[i]? = some x → vars[i]? = some d → 0 ≤ x ∧ x < d
structure GoodT (t : Task) : Prop where
 nv : t.Vars.length ≤ 64
 no : t.Ops.length ≤ 4096
 v : ∀ n ∈ t.Vars, 1 ≤ n ∧ n ≤ 64
 init : StateOK t.Vars t.Init
 goal : FactsOK t.Vars t.Goal
 op : ∀ o ∈ t.Ops, OpOK t.Vars o
theorem Jg {α : Type} {l : List α} {i : Nat} {x : α} (h : l[i]? = some x) : l.take (i + 1) = l.take i ++ [x] := by rw [List.take_add_one, h]; rfl
theorem FactsOK.snoc {vars : List Int} {l : List Fact} {x : Fact} : FactsOK vars (l ++ [x]) ↔ FactsOK vars l ∧ InR vars x ∧ ∀ a ∈ l, a.Var < x.Var := by
 constructor
 ·rintro ⟨h1, h2⟩
  rw [List.pairwise_append] at h2
  exact ⟨⟨fun y hy => h1 y (by simp [hy]), h2.1⟩, h1 x (by simp), fun a ha => h2.2.2 a ha x (by simp)⟩
 ·rintro ⟨⟨h1, h2⟩, h3, h4⟩
  refine ⟨fun y hy => ?_, List.pairwise_append.2 ⟨h2, by simp, fun a ha b hb => ?_⟩⟩
  ·rcases List.mem_append.1 hy with hy | hy
   ·exact h1 y hy
   ·simp only [List.mem_singleton] at hy; subst hy; exact h3
  ·simp only [List.mem_singleton] at hb; subst hb; exact h4 a ha
theorem FactsOK.take {vars : List Int} {f : List Fact} (h : FactsOK vars f) (i : Nat) : FactsOK vars (f.take i) := ⟨fun x hx => h.r x (List.mem_of_mem_take hx), h.o.sublist (List.take_sublist i f)⟩
theorem FactsOK.len {vars : List Int} {f : List Fact} (h : FactsOK vars f) : f.length ≤ vars.length := by
 have := nodup_short' (n := vars.length) (L := f.map fun x => x.Var.toNat) ?_ ?_
 ·simpa using this
 ·refine List.pairwise_map.2 (h.o.imp_of_mem ?_)
  intro a b ha hb hlt
  have := h.r a ha
  have := h.r b hb
  unfold InR at *
  omega
 ·intro x hx
  obtain ⟨y, hy, rfl⟩ := List.mem_map.1 hx
  have := h.r y hy
  unfold InR at *
  omega
theorem Qho {vars : List Int} {f : List Fact} {i : Nat} {x : Fact} (hx : f[i]? = some x) (h : ¬ (InR vars x ∧ ∀ a ∈ f.take i, a.Var < x.Var)) : ¬ FactsOK vars f := fun hf => h (by
 have := hf.take (i + 1)
 rw [Jg hx] at this
 exact (FactsOK.snoc.1 this).2)
theorem QdW {vars : List Int} {f : List Fact} {i : Nat} {x : Fact} (hx : f[i]? = some x) (h : FactsOK vars (f.take i)) (hr : InR vars x) (hl : ∀ a ∈ f.take i, a.Var < x.Var) : FactsOK vars (f.take (i + 1)) := by
 rw [Jg hx]
 exact FactsOK.snoc.2 ⟨h, hr, hl⟩
theorem Qeh {vars : List Int} {n : Int} (h0 : 0 ≤ n) (h1 : n < (vars.length : Int)) : Jc vars n = some (vars[n.toNat]?.getD 0) := by
 obtain ⟨d, hd⟩ := QH (xs := vars) (i := n.toNat) (by omega)
 unfold Jc
 rw [if_pos h0, hd]
 rfl
open Classical in
theorem Qf3 (vars : List Int) (f : List Fact) (hv : vars.length ≤ 4096) : KK vars f = some (decide (FactsOK vars f)) := by
 refine QbW ?_
 unfold KK
 refine Ok.ctl (fun i _ => FactsOK vars (f.take i)) (fun r => r = false ∧ ¬ FactsOK vars f) ⟨by simp, by simp⟩ ?_ ?_ ?_
 ·rintro i _ hi h
  obtain ⟨x, hx⟩ := QH hi
  have hb := fun h => Qho (vars := vars) hx h
  have hlen := h.len
  have hil : i ≤ 4096 := by rw [List.length_take] at hlen; omega
  simp only [Q6, hx, Option.bind_some]
  by_cases h1 : x.Var < 0
  ·simp only [h1, decide_true, if_true, Option.bind_some]; exact Ok.ret ⟨rfl, hb fun h => by have := h.1; unfold InR at this; omega⟩
  by_cases h2 : (vars.length : Int) ≤ x.Var
  ·simp only [h1, h2, decide_true, decide_false, Bool.false_eq_true, if_false, if_true, Option.bind_some]; exact Ok.ret ⟨rfl, hb fun h => by have := h.1; unfold InR at this; omega⟩
  by_cases h3 : x.Val < 0
  ·simp only [h1, h2, h3, decide_true, decide_false, Bool.false_eq_true, if_false, if_true, Option.bind_some]; exact Ok.ret ⟨rfl, hb fun h => by have := h.1; unfold InR at this; omega⟩
  rw [Qeh (by omega) (by omega)]
  by_cases h4 : vars[x.Var.toNat]?.getD 0 ≤ x.Val
  ·simp only [h1, h2, h3, h4, decide_true, decide_false, Bool.false_eq_true, if_false, if_true, Option.bind_some]; exact Ok.ret ⟨rfl, hb fun h => by have := h.1; unfold InR at this; omega⟩
  have hr : InR vars x := by unfold InR; omega
  by_cases h5 : 0 < i
  ·obtain ⟨a, ha⟩ := QH (show i - 1 < f.length by omega)
   have hw : IntKind.i64.wrap ((i : Int) - 1) = ((i - 1 : Nat) : Int) := by rw [Jo (by omega) (by omega)]; omega
   have h5' : (0 : Int) < (i : Int) := by omega
   have ht : f.take i = f.take (i - 1) ++ [a] := by
    have := Jg ha
    rwa [show i - 1 + 1 = i by omega] at this
   simp only [h1, h2, h3, h4, h5', hw, Q6, ha, decide_true, decide_false, Bool.false_eq_true, if_false, if_true, Option.bind_some]
   by_cases h6 : x.Var ≤ a.Var
   ·simp only [h6, decide_true, if_true]
    exact Ok.ret ⟨Z, hb fun h => by have := h.2 a (by rw [ht]; simp); omega⟩
   ·simp only [h6, decide_false, Bool.false_eq_true, if_false]
    refine Ok.ret (QdW hx h hr fun b hb => ?_)
    rw [ht] at hb h
    rcases List.mem_append.1 hb with hb | hb
    ·have := (FactsOK.snoc.1 h).2.2 b hb; omega
    ·simp only [List.mem_singleton] at hb; subst hb; omega
  ·have h5' : ¬ (0 : Int) < (i : Int) := by omega
   obtain rfl : i = 0 := by omega
   simp only [h1, h2, h3, h4, h5', decide_true, decide_false, Bool.false_eq_true, if_false, if_true, Option.bind_some]
   exact Ok.ret (QdW hx h hr (by simp))
 ·rintro r ⟨rfl, hn⟩
  exact Ok.ret (by simp [hn])
 ·intro _ h
  rw [List.take_length] at h
  exact Ok.ret (by simp [h])
open Classical in
theorem Qlq (vars : List Int) (f : List Fact) : YJ vars f = some (decide (FactsOK vars f)) := by
 refine QbW ?_
 unfold YJ
 refine Ok.ctl (fun i last => FactsOK vars (f.take i) ∧ -1 ≤ last ∧ (∀ a ∈ f.take i, a.Var ≤ last) ∧ (last = -1 ∨ ∃ a ∈ f.take i, a.Var = last)) (fun r => r = false ∧ ¬ FactsOK vars f) ⟨⟨by simp, by simp⟩, by omega, by simp, .inl Z⟩ ?_ ?_ ?_
 ·rintro i last hi ⟨h, g1, g2, g3⟩
  obtain ⟨x, hx⟩ := QH hi
  have hb := fun h => Qho (vars := vars) hx h
  simp only [Q6, hx, Option.bind_some]
  by_cases h1 : x.Var ≤ last
  ·simp only [h1, decide_true, if_true, Option.bind_some]; exact Ok.ret ⟨rfl, hb fun h => by
    have := h.1; unfold InR at this
    rcases g3 with g3 | ⟨a, ha, e⟩
    ·omega
    ·have := h.2 a ha; omega⟩
  by_cases h2 : (vars.length : Int) ≤ x.Var
  ·simp only [h1, h2, decide_true, decide_false, Bool.false_eq_true, if_false, if_true, Option.bind_some]; exact Ok.ret ⟨rfl, hb fun h => by have := h.1; unfold InR at this; omega⟩
  by_cases h3 : x.Val < 0
  ·simp only [h1, h2, h3, decide_true, decide_false, Bool.false_eq_true, if_false, if_true, Option.bind_some]; exact Ok.ret ⟨rfl, hb fun h => by have := h.1; unfold InR at this; omega⟩
  rw [Qeh (by omega) (by omega)]
  by_cases h4 : vars[x.Var.toNat]?.getD 0 ≤ x.Val
  ·simp only [h1, h2, h3, h4, decide_true, decide_false, Bool.false_eq_true, if_false, if_true, Option.bind_some]; exact Ok.ret ⟨rfl, hb fun h => by have := h.1; unfold InR at this; omega⟩
  have hr : InR vars x := by unfold InR; omega
  simp only [h1, h2, h3, h4, decide_true, decide_false, Bool.false_eq_true, if_false, if_true, Option.bind_some]
  refine Ok.ret ⟨QdW hx h hr fun b hb => ?_, by omega, fun a ha => ?_, .inr ⟨x, ?_, Z⟩⟩
  ·have := g2 b hb; omega
  ·rw [Jg hx] at ha
   rcases List.mem_append.1 ha with ha | ha
   ·have := g2 a ha; omega
   ·simp only [List.mem_singleton] at ha; subst ha; omega
  ·rw [Jg hx]; simp
 ·rintro r ⟨rfl, hn⟩
  exact Ok.ret (by simp [hn])
 ·rintro _ ⟨h, _⟩
  rw [List.take_length] at h
  exact Ok.ret (by simp [h])
theorem KX {α R β : Type} {xs : List α} {B : Nat → Unit → Option (Ctl Unit R)} {r : R} {kr : R → Option β} {k : Unit → Option β} (p : α → Prop) [DecidablePred p] (h : ∀ i x, xs[i]? = some x → B i () = some (if p x then .next () else .ret r)) :
  ctl (JS B xs.length 0 ()) kr k = open Classical in if ∀ x ∈ xs, p x then k () else kr r := by
 classical
 rw [QcD (p := fun i => decide (∀ x, xs[i]? = some x → p x)) (r := r)]
 ·have : ((List.range xs.length).all fun i => decide (∀ x, xs[i]? = some x → p x)) = true ↔ ∀ x ∈ xs, p x := by
   rw [List.all_eq_true]
   constructor
   ·intro h x hx
    obtain ⟨i, hi⟩ := List.mem_iff_getElem?.1 hx
    have hlt := (List.getElem?_eq_some_iff.1 hi).1
    have := h i (by simpa using hlt)
    simp only [decide_eq_true_eq] at this
    exact this x hi
   ·intro h i hi
    simp only [decide_eq_true_eq]
    intro x hx
    exact h x (List.mem_of_getElem? hx)
  by_cases hall : ∀ x ∈ xs, p x
  ·rw [if_pos (this.2 hall), if_pos hall]
  ·rw [if_neg (fun h => hall (this.1 h)), if_neg hall]
 ·intro i hi
  obtain ⟨x, hx⟩ := QH hi
  rw [h i x hx]
  by_cases hp : p x
  ·have : decide (∀ y, xs[i]? = some y → p y) = true := by simp [hx, hp]
   rw [this, if_pos hp]; rfl
  ·have : decide (∀ y, xs[i]? = some y → p y) = false := by simp [hx, hp]
   rw [this, if_neg hp]; rfl
open Classical in
theorem Qkr (vars s : List Int) (hl : s.length = vars.length) : ((List.range s.length).all fun i => decide (∀ x d, s[i]? = some x → vars[i]? = some d → 0 ≤ x ∧ x < d)) = decide (StateOK vars s) := by
 rw [Bool.eq_iff_iff, List.all_eq_true, decide_eq_true_eq]
 constructor
 ·intro h
  refine ⟨hl, fun i x d hx hd => ?_⟩
  have hlt := (List.getElem?_eq_some_iff.1 hx).1
  have := h i (by simpa using hlt)
  simp only [decide_eq_true_eq] at this
  exact this x d hx hd
 ·intro h i hi
  simp only [decide_eq_true_eq]
  exact h.r i
open Classical in
theorem Qje (vars s : List Int) : KY vars s = some (decide (StateOK vars s)) := by
 unfold KY
 by_cases hl : s.length = vars.length
 ·have hl' : (s.length : Int) = (vars.length : Int) := by omega
  simp only [hl', decide_true, Bool.not_true, Bool.false_eq_true, if_false]
  rw [QcD (p := fun i => decide (∀ x d, s[i]? = some x → vars[i]? = some d → 0 ≤ x ∧ x < d)) (r := false), Qkr vars s hl]
  ·cases decide (StateOK vars s) <;> rfl
  ·intro i hi
   obtain ⟨x, hx⟩ := QH hi
   obtain ⟨d, hd⟩ := QH (show i < vars.length by omega)
   simp only [Q6, hx, hd, Option.bind_some, Option.some.injEq, forall_eq']
   by_cases h1 : x < 0
   ·have : ¬ (0 ≤ x ∧ x < d) := by omega
    simp only [h1, this, decide_true, decide_false, if_true, Option.bind_some, forall_const, Bool.false_eq_true, if_false]
    simp [this]
   ·by_cases h2 : d ≤ x
    ·have : ¬ (0 ≤ x ∧ x < d) := by omega
     simp [h1, h2, this]
    ·have : 0 ≤ x ∧ x < d := by omega
     simp [h1, h2, this]
 ·have hl' : ¬ (s.length : Int) = (vars.length : Int) := by omega
  have : ¬ StateOK vars s := fun h => hl h.len
  simp [hl', this]
open Classical in
theorem QfN (vars s : List Int) : Qaa vars s = some (decide (StateOK vars s)) := by
 rw [← Qje]
 unfold Qaa KY
 congr 1
 congr 1
 congr 1
 funext i _
 cases Jc s (i : Int) <;> rfl
theorem Qng {s : ByteArray} {R : Type} (r : R) (j : Nat) (x : Int) (hj : (JW s)[j]? = some x) :
  (((Jc (JW s) (j : Int)).bind fun x => if decide (x < 32) then (some true) else (some (decide (126 < x)))).bind fun (z : Bool) => if z then (some (Ctl.ret r)) else (some (Ctl.next ()))) = some (if 32 ≤ x ∧ x ≤ 126 then Ctl.next () else .ret r) := by
 rw [Q6, hj]
 simp only [Option.bind_some]
 by_cases h1 : x < 32
 ·have : ¬ (32 ≤ x ∧ x ≤ 126) := by omega
  simp [h1, this]
 ·by_cases h2 : 126 < x
  ·have : ¬ (32 ≤ x ∧ x ≤ 126) := by omega
   simp [h1, h2, this]
  ·have : 32 ≤ x ∧ x ≤ 126 := by omega
   simp [h1, h2, this]
theorem Qgc (s : ByteArray) : (s.size : Int).toNat = (JW s).length := by rw [Qdn]; simp
open Classical in
theorem Qnx (s : ByteArray) (h : s.size ≤ 9223372036854775807) : Qa0 s = some (decide (s.size ≤ 256 ∧ ∀ c ∈ JW s, 32 ≤ c ∧ c ≤ 126)) := by
 unfold Qa0
 have hm : must (decide ((s.size : Int) ≤ 9223372036854775807)) = some () := by unfold must; rw [if_pos (by simp; omega)]
 simp only [hm, Option.bind_some, Qgc]
 rw [KX (r := false) (fun c => 32 ≤ c ∧ c ≤ 126) (fun i x hx => Qng false i x hx)]
 by_cases h1 : ∀ c ∈ JW s, 32 ≤ c ∧ c ≤ 126
 ·rw [if_pos h1]
  by_cases h2 : s.size ≤ 256
  ·have : (s.size : Int) ≤ 256 := by omega
   simp only [this, h2, h1, decide_true, true_and]
   simp; exact h1
  ·have : ¬ (s.size : Int) ≤ 256 := by omega
   simp [this, h2]
 ·rw [if_neg h1]
  simp [h1]
open Classical in
theorem tOp (vars : List Int) (o : Op) (hv : vars.length ≤ 4096) : Y1 vars o = some (decide (OpOK vars o)) := by
 unfold Y1
 by_cases h1 : o.Cost < 0
 ·have : ¬ OpOK vars o := fun h => by have := h.c0; omega
  simp [h1, this]
 by_cases h2 : 1048576 < o.Cost
 ·have : ¬ OpOK vars o := fun h => by have := h.c1; omega
  simp [h1, h2, this]
 by_cases h3 : 64 < (o.Effs.length : Int)
 ·have : ¬ OpOK vars o := fun h => by have := h.ne; omega
  simp [h1, h2, h3, this]
 by_cases h4 : 256 < (o.Name.size : Int)
 ·have : ¬ OpOK vars o := fun h => by have := h.nm; omega
  simp [h1, h2, h3, h4, this]
 simp only [h1, h2, h3, h4, decide_false, Bool.false_eq_true, if_false, Qf3 _ _ hv, Option.bind_some]
 by_cases h5 : FactsOK vars o.Pre
 ·have hm : must (decide ((o.Name.size : Int) ≤ 9223372036854775807)) = some () := by unfold must; rw [if_pos (by simp; omega)]
  simp only [h5, decide_true, Bool.not_true, Bool.false_eq_true, if_false, hm, Option.bind_some, Qgc]
  rw [KX (r := false) (fun c => 32 ≤ c ∧ c ≤ 126) (fun i x hx => Qng false i x hx)]
  by_cases h6 : ∀ c ∈ JW o.Name, 32 ≤ c ∧ c ≤ 126
  ·rw [if_pos h6, KX (r := false) (fun e => FactsOK vars e.When ∧ InR vars ⟨e.Var, e.Val⟩)]
   ·by_cases h7 : ∀ e ∈ o.Effs, FactsOK vars e.When ∧ InR vars ⟨e.Var, e.Val⟩
    ·rw [if_pos h7]
     have : OpOK vars o := ⟨by omega, by omega, by omega, by omega, h6, h5, h7⟩
     simp [this]
    ·rw [if_neg h7]
     have : ¬ OpOK vars o := fun h => h7 h.eff
     simp [this]
   ·intro i e he
    have hone : FactsOK vars [⟨e.Var, e.Val⟩] ↔ InR vars ⟨e.Var, e.Val⟩ := ⟨fun h => h.r _ (by simp), fun h => ⟨by simpa using h, by simp⟩⟩
    simp only [Q6, he, Option.bind_some]
    by_cases h7 : FactsOK vars e.When
    ·by_cases h8 : InR vars ⟨e.Var, e.Val⟩ <;> simp [h7, h8, hone, Qf3 _ _ hv]
    ·simp [h7]
  ·rw [if_neg h6]
   have : ¬ OpOK vars o := fun h => h6 h.ch
   simp [this]
 ·have : ¬ OpOK vars o := fun h => h5 h.pre
  simp [h5, this]
open Classical in
theorem QmY (t : Task) : Yq t = some (decide (GoodT t)) := by
 unfold Yq
 by_cases h1 : 64 < (t.Vars.length : Int)
 ·have : ¬ GoodT t := fun h => by have := h.nv; omega
  simp [h1, this]
 by_cases h2 : 4096 < (t.Ops.length : Int)
 ·have : ¬ GoodT t := fun h => by have := h.no; omega
  simp [h1, h2, this]
 have hv : t.Vars.length ≤ 4096 := by omega
 simp only [h1, h2, decide_false, Bool.or_self, Bool.false_eq_true, if_false]
 rw [KX (r := false) (fun n => 1 ≤ n ∧ n ≤ 64)]
 ·by_cases h3 : ∀ n ∈ t.Vars, 1 ≤ n ∧ n ≤ 64
  ·rw [if_pos h3, Qje]
   by_cases h4 : StateOK t.Vars t.Init
   ·by_cases h5 : FactsOK t.Vars t.Goal
    ·simp only [h4, h5, decide_true, Bool.not_true, Bool.false_eq_true, if_false, Option.bind_some, Qf3 _ _ hv]
     rw [KX (r := false) (fun o => OpOK t.Vars o)]
     ·by_cases h6 : ∀ o ∈ t.Ops, OpOK t.Vars o
      ·rw [if_pos h6]
       have : GoodT t := ⟨by omega, by omega, h3, h4, h5, h6⟩
       simp [this]
      ·rw [if_neg h6]
       have : ¬ GoodT t := fun h => h6 h.op
       simp [this]
     ·intro i o ho
      simp only [Q6, ho, Option.bind_some, tOp _ _ hv]
      by_cases h6 : OpOK t.Vars o <;> simp [h6]
    ·have : ¬ GoodT t := fun h => h5 h.goal
     simp [h4, h5, this, Qf3 _ _ hv]
   ·have : ¬ GoodT t := fun h => h4 h.init
    simp [h4, this]
  ·rw [if_neg h3]
   have : ¬ GoodT t := fun h => h3 h.v
   simp [this]
 ·intro i n hn
  simp only [Q6, hn, Option.bind_some]
  by_cases ha : n < 1
  ·have : ¬ (1 ≤ n ∧ n ≤ 64) := by omega
   simp [ha, this]
  ·by_cases hb : 64 < n
   ·have : ¬ (1 ≤ n ∧ n ≤ 64) := by omega
    simp [ha, hb, this]
   ·have : 1 ≤ n ∧ n ≤ 64 := by omega
    simp [ha, hb, this]
/-! ### the program's check -/
def QeZ (t : Task) : List (List Fact) := t.Goal :: t.Ops.flatMap fun o => o.Pre :: o.Effs.map fun e => e.When
theorem QdL (t : Task) (ho : t.Ops.length ≤ 4096) (he : ∀ o ∈ t.Ops, o.Effs.length ≤ 64) : K9 t = some (QeZ t) := by
 unfold K9
 rw [Qap t.Ops (fun o => o.Pre :: o.Effs.map fun e => e.When) (s0 := [t.Goal])]
 ·rfl
 ·intro i o s hi hs
  have hm := List.mem_of_getElem? hi
  have hlt := (List.getElem?_eq_some_iff.1 hi).1
  have hsl : s.length ≤ 1 + 4096 * 65 := by
   rw [hs, List.length_append]
   have := QbZ (xs := t.Ops.take i) (g := fun o => o.Pre :: o.Effs.map fun e => e.When) (M := 65) (fun x hx => by
    have := he x (List.mem_of_mem_take hx)
    simp; omega)
   have h2 : (t.Ops.take i).length * 65 ≤ 4096 * 65 := Nat.mul_le_mul_right _ (by rw [List.length_take]; omega)
   simp only [List.length_singleton]; omega
  simp only [Q6, hi, Option.bind_some]
  rw [JM (by simp only [List.length_singleton]; omega)]
  simp only [Option.bind_some]
  rw [Qap o.Effs (fun e => [e.When]) (s0 := s ++ [o.Pre])]
  ·simp [YY]
  ·intro j e u hj hu
   have hjl := (List.getElem?_eq_some_iff.1 hj).1
   have := he o hm
   simp only [Q6, hj, Option.bind_some]
   rw [JM]
   ·rfl
   ·rw [hu, YY]
    simp only [List.length_append, List.length_map, List.length_take, List.length_singleton]
    omega
open Classical in
theorem QmI (l : List (List Fact)) : Y3 l = some (!decide (∀ f ∈ l, f.length ≤ 64)) := by
 unfold Y3
 have h1 : Ok (KR l) fun n => (0 ≤ n ↔ ¬ ∀ f ∈ l, f.length ≤ 64) := by
  unfold KR
  refine Ok.ctl (fun i _ => ∀ f ∈ l.take i, f.length ≤ 64) (fun n => 0 ≤ n ∧ ¬ ∀ f ∈ l, f.length ≤ 64) (by simp) ?_ ?_ ?_
  ·rintro i _ hi h
   obtain ⟨x, hx⟩ := QH hi
   have ht : Yw x = decide (64 < (x.length : Int)) := by
    have := Qcd x
    unfold Yx at this
    exact (Zu this).symm
   simp only [Q6, hx, Option.bind_some, ht]
   by_cases hb : 64 < (x.length : Int)
   ·simp only [hb, decide_true, if_true]
    exact Ok.ret ⟨by omega, fun h => by have := h x (List.mem_of_getElem? hx); omega⟩
   ·simp only [hb, decide_false, Bool.false_eq_true, if_false]
    refine Ok.ret fun f hf => ?_
    rw [Jg hx] at hf
    rcases List.mem_append.1 hf with hf | hf
    ·exact h f hf
    ·simp only [List.mem_singleton] at hf; subst hf; omega
  ·rintro r ⟨h1, h2⟩
   exact Ok.ret ⟨fun _ => h2, fun _ => h1⟩
  ·intro _ h
   rw [List.take_length] at h
   exact Ok.ret ⟨fun h => by omega, fun h' => absurd h h'⟩
 obtain ⟨n, hn, h2⟩ := h1
 rw [hn]
 simp only [Option.bind_some, Option.some.injEq]
 by_cases h3 : ∀ f ∈ l, f.length ≤ 64
 ·have : ¬ 0 ≤ n := fun h => h2.1 h h3
  simp only [this, h3, decide_false]; simp; exact h3
 ·have : 0 ≤ n := h2.2 h3
  simp only [this, decide_true]; simp; simpa using h3
open Classical in
theorem large_ok' (t : Task) : Ok (Qa1 t) fun b => b = false ↔ t.Vars.length ≤ 64 ∧ t.Ops.length ≤ 4096 ∧ (∀ o ∈ t.Ops, o.Effs.length ≤ 64) ∧ ∀ f ∈ QeZ t, f.length ≤ 64 := by
 unfold Qa1
 by_cases h1 : 64 < (t.Vars.length : Int)
 ·simp only [h1, decide_true, Bool.true_or, if_true]
  exact Ok.ret ⟨fun h => (by cases h), fun h => by omega⟩
 by_cases h2 : 4096 < (t.Ops.length : Int)
 ·simp only [h1, h2, decide_true, Bool.or_true, if_true]
  exact Ok.ret ⟨fun h => (by cases h), fun h => by omega⟩
 simp only [h1, h2, decide_false, Bool.or_self, Bool.false_eq_true, if_false]
 rw [KX (r := true) (fun o => o.Effs.length ≤ 64)]
 ·by_cases h3 : ∀ o ∈ t.Ops, o.Effs.length ≤ 64
  ·rw [if_pos h3, QdL t (by omega) h3]
   simp only [Option.bind_some, QmI]
   refine Ok.ret ⟨fun h => ⟨by omega, by omega, h3, by simpa using h⟩, fun h => by simpa using h.2.2.2⟩
  ·rw [if_neg h3]
   exact Ok.ret ⟨fun h => (by cases h), fun h => absurd h.2.2.1 h3⟩
 ·intro i o ho
  simp only [Q6, ho, Option.bind_some]
  by_cases h : 64 < (o.Effs.length : Int)
  ·have : ¬ o.Effs.length ≤ 64 := by omega
   simp [h, this]
  ·have : o.Effs.length ≤ 64 := by omega
   simp [h, this]
theorem Qgs {t : Task} (h : GoodT t) : ∀ f ∈ QeZ t, FactsOK t.Vars f := by
 intro f hf
 unfold QeZ at hf
 rcases List.mem_cons.1 hf with rfl | hf
 ·exact h.goal
 ·obtain ⟨o, ho, hf⟩ := List.mem_flatMap.1 hf
  rcases List.mem_cons.1 hf with rfl | hf
  ·exact (h.op o ho).pre
  ·obtain ⟨e, he, rfl⟩ := List.mem_map.1 hf
   exact ((h.op o ho).eff e he).1
open Classical in
theorem Qdh (t : Task) (hn : ∀ o ∈ t.Ops, o.Name.size ≤ 9223372036854775807) : Ok (YK t) fun e => e = none ↔ GoodT t := by
 unfold YK
 obtain ⟨b, hb, h0⟩ := large_ok' t
 rw [hb]
 simp only [Option.bind_some]
 cases b with
 | true =>
  simp only [if_true]
  refine Ok.ret ⟨fun h => (by cases h), fun h => ?_⟩
  have := h0.2 ⟨h.nv, h.no, fun o ho => (h.op o ho).ne, fun f hf => Nat.le_trans (Qgs h f hf).len h.nv⟩
  cases this
 | false =>
  obtain ⟨g1, g2, g3, g4⟩ := h0.1 rfl
  simp only [Bool.false_eq_true, if_false]
  rw [KX (r := some 1) (fun n => 1 ≤ n ∧ n ≤ 64)]
  ·by_cases h1 : ∀ n ∈ t.Vars, 1 ≤ n ∧ n ≤ 64
   ·rw [if_pos h1, KX (r := some 1) (fun o => 0 ≤ o.Cost ∧ o.Cost ≤ 1048576)]
    ·by_cases h2 : ∀ o ∈ t.Ops, 0 ≤ o.Cost ∧ o.Cost ≤ 1048576
     ·rw [if_pos h2, QfN]
      by_cases h3 : StateOK t.Vars t.Init
      ·simp only [h3, decide_true, Bool.not_true, Option.bind_some, Bool.false_eq_true, if_false, QdL t g2 g3]
       rw [KX (r := some 2) (fun f => FactsOK t.Vars f)]
       ·by_cases h4 : ∀ f ∈ QeZ t, FactsOK t.Vars f
        ·rw [if_pos h4, KX (r := some 2) (fun o => ∀ e ∈ o.Effs, InR t.Vars ⟨e.Var, e.Val⟩)]
         ·by_cases h5 : ∀ o ∈ t.Ops, ∀ e ∈ o.Effs, InR t.Vars ⟨e.Var, e.Val⟩
          ·rw [if_pos h5, KX (r := some 8) (fun o => o.Name.size ≤ 256 ∧ ∀ c ∈ JW o.Name, 32 ≤ c ∧ c ≤ 126)]
           ·by_cases h6 : ∀ o ∈ t.Ops, o.Name.size ≤ 256 ∧ ∀ c ∈ JW o.Name, 32 ≤ c ∧ c ≤ 126
            ·rw [if_pos h6]
             refine Ok.ret ⟨fun _ => ⟨g1, g2, h1, h3, h4 _ (by simp [QeZ]), fun o ho => ⟨(h2 o ho).1, (h2 o ho).2, g3 o ho, (h6 o ho).1, (h6 o ho).2, h4 _ ?_, fun e he => ⟨h4 _ ?_, h5 o ho e he⟩⟩⟩, fun _ => rfl⟩
             ·unfold QeZ
              exact List.mem_cons_of_mem _ (List.mem_flatMap.2 ⟨o, ho, by simp⟩)
             ·unfold QeZ
              exact List.mem_cons_of_mem _ (List.mem_flatMap.2 ⟨o, ho, List.mem_cons_of_mem _ (List.mem_map.2 ⟨e, he, Z⟩)⟩)
            ·rw [if_neg h6]
             exact Ok.ret ⟨fun h => (by cases h), fun h => absurd (fun o ho => ⟨(h.op o ho).nm, (h.op o ho).ch⟩) h6⟩
           ·intro i o ho
            have := hn o (List.mem_of_getElem? ho)
            simp only [Q6, ho, Option.bind_some, Qnx _ this]
            by_cases h : o.Name.size ≤ 256 ∧ ∀ c ∈ JW o.Name, 32 ≤ c ∧ c ≤ 126
            ·rw [decide_eq_true h, if_pos h]; rfl
            ·rw [decide_eq_false h, if_neg h]; rfl
          ·rw [if_neg h5]
           exact Ok.ret ⟨fun h => (by cases h), fun h => absurd (fun o ho e he => ((h.op o ho).eff e he).2) h5⟩
         ·intro i o ho
          simp only [Q6, ho, Option.bind_some]
          rw [KX (r := some 2) (fun e => InR t.Vars ⟨e.Var, e.Val⟩)]
          ·by_cases h : ∀ e ∈ o.Effs, InR t.Vars ⟨e.Var, e.Val⟩
           ·rw [if_pos h, if_pos h]
           ·rw [if_neg h, if_neg h]
          ·intro j e he
           have hone : FactsOK t.Vars [⟨e.Var, e.Val⟩] ↔ InR t.Vars ⟨e.Var, e.Val⟩ := ⟨fun h => h.r _ (by simp), fun h => ⟨by simpa using h, by simp⟩⟩
           simp only [Q6, he, Option.bind_some, Qlq, hone]
           by_cases h : InR t.Vars ⟨e.Var, e.Val⟩ <;> simp [h]
        ·rw [if_neg h4]
         exact Ok.ret ⟨fun h => (by cases h), fun h => absurd (Qgs h) h4⟩
       ·intro i f hf
        simp only [Q6, hf, Option.bind_some, Qlq]
        by_cases h : FactsOK t.Vars f <;> simp [h]
      ·simp only [h3, decide_false, Bool.not_false, Option.bind_some, if_true]
       exact Ok.ret ⟨fun h => (by cases h), fun h => absurd h.init h3⟩
     ·rw [if_neg h2]
      exact Ok.ret ⟨fun h => (by cases h), fun h => absurd (fun o ho => ⟨(h.op o ho).c0, (h.op o ho).c1⟩) h2⟩
    ·intro i o ho
     simp only [Q6, ho, Option.bind_some]
     by_cases ha : o.Cost < 0
     ·have : ¬ (0 ≤ o.Cost ∧ o.Cost ≤ 1048576) := by omega
      simp [ha, this]
     ·by_cases hb : 1048576 < o.Cost
      ·have : ¬ (0 ≤ o.Cost ∧ o.Cost ≤ 1048576) := by omega
       simp [ha, hb, this]
      ·have : 0 ≤ o.Cost ∧ o.Cost ≤ 1048576 := by omega
       simp [ha, hb, this]
   ·rw [if_neg h1]
    exact Ok.ret ⟨fun h => (by cases h), fun h => absurd h.v h1⟩
  ·intro i n hn
   simp only [Q6, hn, Option.bind_some]
   by_cases ha : n < 1
   ·have : ¬ (1 ≤ n ∧ n ≤ 64) := by omega
    simp [ha, this]
   ·by_cases hb : 64 < n
    ·have : ¬ (1 ≤ n ∧ n ≤ 64) := by omega
     simp [ha, hb, this]
    ·have : 1 ≤ n ∧ n ≤ 64 := by omega
     simp [ha, hb, this]
end Go.Pw
/- -/
set_option maxHeartbeats 4000000
namespace Go.Pw
/-! ### small words -/
theorem QlO (s : List Int) (v : Int) : Ok (JR s v) fun n => 0 ≤ n ↔ v ∈ s := by
 unfold JR
 refine Ok.ctl (fun i _ => v ∉ s.take i) (fun n => 0 ≤ n ∧ v ∈ s) (by simp) ?_ ?_ ?_
 ·rintro i _ hi h
  obtain ⟨x, hx⟩ := QH hi
  simp only [Q6, hx, Option.bind_some]
  by_cases e : v = x
  ·simp only [e, decide_true, if_true]
   exact Ok.ret ⟨by omega, List.mem_of_getElem? hx⟩
  ·simp only [e, decide_false, Bool.false_eq_true, if_false]
   refine Ok.ret ?_
   show v ∉ s.take (i + 1)
   rw [Jg hx]
   simp [h, e]
 ·rintro r ⟨h1, h2⟩
  exact Ok.ret ⟨fun _ => h2, fun _ => h1⟩
 ·intro _ h
  rw [List.take_length] at h
  exact Ok.ret ⟨fun h => by omega, fun h' => absurd h' h⟩
theorem QaQ (s : List Int) (v : Int) : QU s v = some (decide (v ∈ s)) := by
 unfold QU
 obtain ⟨n, hn, h⟩ := QlO s v
 rw [hn]
 simp only [Option.bind_some, Option.some.injEq]
 by_cases h1 : v ∈ s
 ·simp [h1, h.2 h1]
 ·have : ¬ 0 ≤ n := fun h2 => h1 (h.1 h2)
  simp [h1, this]
theorem Qj7 (s : List Int) (v : Int) : JP s v = some (decide (v ∈ s)) := QaQ s v
open Classical in
theorem QnP (f : List Fact) (v : Int) : Qab f v = some (decide (∃ x ∈ f, x.Var = v)) := by
 unfold Qab YN
 have h1 : Ok (K7 f v) fun n => (0 ≤ n ↔ ∃ x ∈ f, x.Var = v) := by
  unfold K7
  refine Ok.ctl (fun i _ => ¬ ∃ x ∈ f.take i, x.Var = v) (fun n => 0 ≤ n ∧ ∃ x ∈ f, x.Var = v) (by simp) ?_ ?_ ?_
  ·rintro i _ hi h
   obtain ⟨x, hx⟩ := QH hi
   have ht : Ym x v = decide (x.Var = v) := by
    have := QbN x v
    unfold Yn at this
    exact (Zu this).symm
   simp only [Q6, hx, Option.bind_some, ht]
   by_cases hb : x.Var = v
   ·simp only [hb, decide_true, if_true]
    exact Ok.ret ⟨by omega, x, List.mem_of_getElem? hx, hb⟩
   ·simp only [hb, decide_false, Bool.false_eq_true, if_false]
    refine Ok.ret ?_
    show ¬ ∃ x ∈ f.take (i + 1), x.Var = v
    rw [Jg hx]
    rintro ⟨y, hy, e⟩
    rcases List.mem_append.1 hy with hy | hy
    ·exact h ⟨y, hy, e⟩
    ·simp only [List.mem_singleton] at hy; subst hy; exact hb e
  ·rintro r ⟨h1, h2⟩
   exact Ok.ret ⟨fun _ => h2, fun _ => h1⟩
  ·intro _ h
   rw [List.take_length] at h
   exact Ok.ret ⟨fun h => by omega, fun h' => absurd h' h⟩
 obtain ⟨n, hn, h2⟩ := h1
 rw [hn]
 simp only [Option.bind_some, Option.some.injEq]
 by_cases h3 : ∃ x ∈ f, x.Var = v
 ·simp only [h3, h2.2 h3, decide_true]
 ·have : ¬ 0 ≤ n := fun h => h3 (h2.1 h)
  simp only [h3, this, decide_false]
theorem QaV {l : List Int} {n : Nat} (hn : l.Nodup) (h : ∀ w ∈ l, 0 ≤ w ∧ w < (n : Int)) : l.length ≤ n := by
 have := nodup_short' (n := n) (L := l.map Int.toNat) ?_ ?_
 ·simpa using this
 ·refine List.pairwise_map.2 (List.Pairwise.imp_of_mem ?_ hn)
  intro a b ha hb hne e
  have := h a ha
  have := h b hb
  exact hne (by omega)
 ·intro x hx
  obtain ⟨y, hy, rfl⟩ := List.mem_map.1 hx
  have := h y hy
  omega
/-! ### the variables outside -/
def Qkk (o : Op) (v w : Int) : Prop := w ≠ v ∧ (¬ ∃ x ∈ o.Pre, x.Var = w) ∧ ∃ e ∈ o.Effs, e.Var = v ∧ ∃ f ∈ e.When, f.Var = w
theorem Qbg {l : List Int} (h : l.length < 4611686018427387904) : ∃ k, Yd l = some k ∧ k.Perm l ∧ k.Pairwise fun a b => a ≤ b := by
 unfold Yd
 rw [if_pos h]
 refine ⟨_, Z, List.mergeSort_perm l _, ?_⟩
 have hp : (l.mergeSort fun x y => decide (x ≤ y)).Pairwise (fun x y => decide (x ≤ y) = true) := by
  apply List.pairwise_mergeSort
  ·intro a b c h1 h2
   simp only [decide_eq_true_eq] at *
   omega
  ·intro a b
   simp only [Bool.or_eq_true, decide_eq_true_eq]
   omega
 exact hp.imp fun h => by simpa using h
theorem Qjz {vars : List Int} {o : Op} {v : Int} (ho : OpOK vars o) (hn : vars.length ≤ 64) : Ok (Ko o [v]) fun l => l.Nodup ∧ ∀ w, w ∈ l ↔ Qkk o v w := by
 classical
 unfold Ko
 refine Ok.bind (J5 (fun i l => l.Nodup ∧ (∀ w ∈ l, 0 ≤ w ∧ w < (vars.length : Int)) ∧ ∀ w, w ∈ l ↔ w ≠ v ∧ (¬ ∃ x ∈ o.Pre, x.Var = w) ∧ ∃ e ∈ o.Effs.take i, e.Var = v ∧ ∃ f ∈ e.When, f.Var = w) ⟨by simp, by simp, by simp⟩ ?_ ?_)
 ·rintro i l hi ⟨g1, g2, g3⟩
  obtain ⟨e, he⟩ := QH hi
  have hem := List.mem_of_getElem? he
  simp only [Q6, he, Option.bind_some, QaQ, List.mem_singleton]
  by_cases h1 : e.Var = v
  ·simp only [h1, decide_true, Bool.not_true, Bool.false_eq_true, if_false]
   refine Ok.bind (J5 (fun j k => k.Nodup ∧ (∀ w ∈ k, 0 ≤ w ∧ w < (vars.length : Int)) ∧ ∀ w, w ∈ k ↔ w ∈ l ∨ w ≠ v ∧ (¬ ∃ x ∈ o.Pre, x.Var = w) ∧ ∃ f ∈ e.When.take j, f.Var = w) ⟨g1, g2, by simp⟩ ?_ ?_)
   ·rintro j k hj ⟨f1, f2, f3⟩
    obtain ⟨f, hf⟩ := QH hj
    have hfm := List.mem_of_getElem? hf
    have hfr := (ho.eff e hem).1.r f hfm
    have hkl := QaV f1 f2
    simp only [Q6, hf, Option.bind_some, QaQ, Qj7, QnP, List.mem_singleton]
    have hstep : ∀ w, (∃ g ∈ e.When.take (j + 1), g.Var = w) ↔ (∃ g ∈ e.When.take j, g.Var = w) ∨ f.Var = w := by
     intro w
     rw [Jg hf]
     constructor
     ·rintro ⟨g, hg, rfl⟩
      rcases List.mem_append.1 hg with hg | hg
      ·exact .inl ⟨g, hg, Z⟩
      ·simp only [List.mem_singleton] at hg; subst hg; exact .inr rfl
     ·rintro (⟨g, hg, rfl⟩ | rfl)
      ·exact ⟨g, List.mem_append_left _ hg, Z⟩
      ·exact ⟨f, by simp, Z⟩
    have hstay : (f.Var = v ∨ (∃ x ∈ o.Pre, x.Var = f.Var) ∨ f.Var ∈ k) → ∀ w, w ∈ k ↔ w ∈ l ∨ w ≠ v ∧ (¬ ∃ x ∈ o.Pre, x.Var = w) ∧ ∃ f ∈ e.When.take (j + 1), f.Var = w := by
     intro h w
     rw [hstep, f3]
     constructor
     ·rintro (h | ⟨h2, h3, h4⟩)
      ·exact .inl h
      ·exact .inr ⟨h2, h3, .inl h4⟩
     ·rintro (h2 | ⟨h2, h3, h4 | rfl⟩)
      ·exact .inl h2
      ·exact .inr ⟨h2, h3, h4⟩
      ·rcases h with h | h | h
       ·exact absurd h h2
       ·exact absurd h h3
       ·exact (f3 _).1 h
    by_cases h2 : f.Var = v
    ·simp only [h2, decide_true, Bool.not_true, Bool.false_eq_true, if_false, Option.bind_some]
     exact Ok.ret ⟨f1, f2, hstay (.inl h2)⟩
    by_cases h3 : ∃ x ∈ o.Pre, x.Var = f.Var
    ·simp only [h2, h3, decide_true, decide_false, Bool.not_true, Bool.not_false, if_true, Bool.false_eq_true, if_false, Option.bind_some]
     exact Ok.ret ⟨f1, f2, hstay (.inr (.inl h3))⟩
    by_cases h4 : f.Var ∈ k
    ·simp only [h2, h3, h4, decide_true, decide_false, Bool.not_true, Bool.not_false, if_true, Bool.false_eq_true, if_false, Option.bind_some]
     exact Ok.ret ⟨f1, f2, hstay (.inr (.inr h4))⟩
    simp only [h2, h3, h4, decide_true, decide_false, Bool.not_true, Bool.not_false, if_true, Bool.false_eq_true, if_false, Option.bind_some]
    rw [JM (by simp only [List.length_singleton]; omega)]
    refine Ok.ret ⟨?_, ?_, fun w => ?_⟩
    ·exact List.nodup_append.2 ⟨f1, by simp, by rintro a ha b hb rfl; simp only [List.mem_singleton] at hb; subst hb; exact h4 ha⟩
    ·intro w hw
     rcases List.mem_append.1 hw with hw | hw
     ·exact f2 w hw
     ·simp only [List.mem_singleton] at hw; subst hw; exact ⟨hfr.1, hfr.2.1⟩
    ·rw [hstep, List.mem_append, f3, List.mem_singleton]
     constructor
     ·rintro ((h | ⟨h5, h6, h7⟩) | rfl)
      ·exact .inl h
      ·exact .inr ⟨h5, h6, .inl h7⟩
      ·exact .inr ⟨h2, h3, .inr Z⟩
     ·rintro (h | ⟨h5, h6, h7 | rfl⟩)
      ·exact .inl (.inl h)
      ·exact .inl (.inr ⟨h5, h6, h7⟩)
      ·exact .inr Z
   ·rintro k ⟨f1, f2, f3⟩
    rw [List.take_length] at f3
    refine Ok.ret ⟨f1, f2, fun w => ?_⟩
    rw [f3, g3, Jg he]
    constructor
    ·rintro (⟨h2, h3, e', he', h4⟩ | ⟨h2, h3, h4⟩)
     ·exact ⟨h2, h3, e', List.mem_append_left _ he', h4⟩
     ·exact ⟨h2, h3, e, by simp, h1, h4⟩
    ·rintro ⟨h2, h3, e', he', h4, h5⟩
     rcases List.mem_append.1 he' with he' | he'
     ·exact .inl ⟨h2, h3, e', he', h4, h5⟩
     ·simp only [List.mem_singleton] at he'; subst he'; exact .inr ⟨h2, h3, h5⟩
  ·simp only [h1, decide_false, Bool.not_false, if_true]
   refine Ok.ret ⟨g1, g2, fun w => ?_⟩
   rw [g3, Jg he]
   constructor
   ·rintro ⟨h2, h3, e', he', h4⟩
    exact ⟨h2, h3, e', List.mem_append_left _ he', h4⟩
   ·rintro ⟨h2, h3, e', he', h4, h5⟩
    rcases List.mem_append.1 he' with he' | he'
    ·exact ⟨h2, h3, e', he', h4, h5⟩
    ·simp only [List.mem_singleton] at he'; subst he'; exact absurd h4 h1
 ·rintro l ⟨g1, g2, g3⟩
  have hl := QaV g1 g2
  obtain ⟨k, hk, hp, _⟩ := Qbg (l := l) (by omega)
  rw [hk]
  simp only [Option.bind_some]
  rw [List.take_length] at g3
  exact Ok.ret ⟨hp.nodup_iff.2 g1, fun w => by rw [hp.mem_iff, g3]; rfl⟩
/-! ### combinations of values -/
def Kq (vars : List Int) (w : Int) : Int := vars[w.toNat]?.getD 0
def K5 : List Int → Int
 | [] => 1
 | x :: l => x * K5 l
theorem QbH (l k : List Int) : K5 (l ++ k) = K5 l * K5 k := by
 induction l with
 | nil => simp [K5]
 | cons x l ih => simp only [List.cons_append, K5, ih, Int.mul_assoc]
theorem Qb4 {l : List Int} (h : ∀ x ∈ l, 1 ≤ x) : 1 ≤ K5 l := by
 induction l with
 | nil => simp [K5]
 | cons x l ih =>
  have h1 := h x (by simp)
  have h2 := ih fun y hy => h y (by simp [hy])
  simp only [K5]
  have : 1 * 1 ≤ x * K5 l := Int.mul_le_mul h1 h2 (by omega) (by omega)
  omega
theorem Qep {l k : List Int} (h : l.Perm k) : K5 l = K5 k := by
 induction h with
 | nil => rfl
 | cons x _ ih => simp only [K5, ih]
 | swap x y l => simp only [K5]; rw [← Int.mul_assoc, ← Int.mul_assoc, Int.mul_comm y x]
 | trans _ _ h1 h2 => rw [h1, h2]
theorem Qcj {l k : List Int} (hl : ∀ x ∈ l, 1 ≤ x) (hk : ∀ x ∈ k, 1 ≤ x) : K5 l ≤ K5 (l ++ k) := by
 rw [QbH]
 have h1 := Qb4 hl
 have h2 := Qb4 hk
 have : K5 l * 1 ≤ K5 l * K5 k := Int.mul_le_mul_of_nonneg_left h2 (by omega)
 omega
theorem KH {t : Task} (hv : ∀ n ∈ t.Vars, 1 ≤ n ∧ n ≤ 64) {w : Int} (h0 : 0 ≤ w) (h1 : w < (t.Vars.length : Int)) : 1 ≤ Kq t.Vars w ∧ Kq t.Vars w ≤ 64 := by
 obtain ⟨d, hd⟩ := QH (xs := t.Vars) (i := w.toNat) (by omega)
 have := hv d (List.mem_of_getElem? hd)
 unfold Kq
 rw [hd]
 exact this
theorem QfX {t : Task} (hv : ∀ n ∈ t.Vars, 1 ≤ n ∧ n ≤ 64) {l : List Int} (hl : ∀ w ∈ l, 0 ≤ w ∧ w < (t.Vars.length : Int)) :
  Ok (Kf t l) fun r => (K5 (l.map (Kq t.Vars)) ≤ 4096 ∧ r = (K5 (l.map (Kq t.Vars)), true)) ∨ (4096 < K5 (l.map (Kq t.Vars)) ∧ r = (0, false)) := by
 have hall : ∀ k : List Int, (∀ w ∈ k, w ∈ l) → ∀ x ∈ k.map (Kq t.Vars), 1 ≤ x := by
  intro k hk x hx
  obtain ⟨w, hw, rfl⟩ := List.mem_map.1 hx
  have := hl w (hk w hw)
  exact (KH hv this.1 this.2).1
 unfold Kf
 refine Ok.ctl (fun i n => n = K5 ((l.take i).map (Kq t.Vars)) ∧ n ≤ 4096) (fun r => 4096 < K5 (l.map (Kq t.Vars)) ∧ r = (0, false)) ⟨by simp [K5], by omega⟩ ?_ ?_ ?_
 ·rintro i n hi ⟨h1, h2⟩
  obtain ⟨w, hw⟩ := QH hi
  have hwm := List.mem_of_getElem? hw
  have hr := hl w hwm
  have hd := KH hv hr.1 hr.2
  have hp := Qb4 (hall (l.take i) fun w hw => List.mem_of_mem_take hw)
  rw [← h1] at hp
  have e1 : Jc t.Vars w = some (Kq t.Vars w) := Qeh hr.1 hr.2
  have hm : K5 ((l.take (i + 1)).map (Kq t.Vars)) = n * Kq t.Vars w := by
   rw [Jg hw, List.map_append, QbH, ← h1]
   simp [K5]
  have b1 : n * Kq t.Vars w ≤ 4096 * 64 := Int.mul_le_mul h2 hd.2 (by omega) (by omega)
  have b0 : 0 ≤ n * Kq t.Vars w := Int.mul_nonneg (by omega) (by omega)
  simp only [Q6, hw, e1, Option.bind_some, Jo (n := n * Kq t.Vars w) (by omega) (by omega)]
  by_cases h3 : 4096 < n * Kq t.Vars w
  ·simp only [h3, decide_true, if_true]
   refine Ok.ret ⟨?_, Z⟩
   have h4 := Qcj (hall (l.take (i + 1)) fun w hw => List.mem_of_mem_take hw) (hall (l.drop (i + 1)) fun w hw => List.mem_of_mem_drop hw)
   rw [← List.map_append, List.take_append_drop] at h4
   omega
  ·simp only [h3, decide_false, Bool.false_eq_true, if_false]
   exact Ok.ret ⟨hm.symm, by omega⟩
 ·rintro r h
  exact Ok.ret (.inr h)
 ·rintro n ⟨h1, h2⟩
  rw [List.take_length] at h1
  exact Ok.ret (.inl ⟨by omega, by rw [h1]⟩)
theorem QjT {t : Task} {s : List Int} {v x : Int} (hv : ∀ n ∈ t.Vars, 1 ≤ n ∧ n ≤ 64) (h0 : 0 ≤ v) (h1 : v < (t.Vars.length : Int)) (hx : s[v.toNat]? = some x) (b0 : 0 ≤ x) (b1 : x ≤ 1000000) : JO t [v] s = some x := by
 have hd := KH hv h0 h1
 have e1 : Jc t.Vars v = some (Kq t.Vars v) := Qeh h0 h1
 have e2 : Jc s v = some x := by unfold Jc; rw [if_pos h0, hx]
 unfold JO
 simp only [List.length_singleton, forS, Q6, List.getElem?_cons_zero, Option.bind_some, e1, e2, Int.zero_mul]
 rw [Jo (n := 0) (by omega) (by omega), Int.zero_add, Jo (by omega) (by omega)]
theorem Qk2 {t : Task} {s : List Int} {v x : Int} (hv : ∀ n ∈ t.Vars, 1 ≤ n ∧ n ≤ 64) (h0 : 0 ≤ v) (h1 : v < (t.Vars.length : Int)) (hx : s[v.toNat]? = some x) (b0 : 0 ≤ x) (b1 : x ≤ 1000000) : JO t [v] s = some x := QjT hv h0 h1 hx b0 b1
/-! ### put -/
def QbV (vars : List Int) : List Int → List Int → Int → List Int
 | [], s, _ => s
 | w :: r, s, k => QbV vars r (s.set w.toNat (k % Kq vars w)) (k / Kq vars w)
def QdP (vars : List Int) : List Int → (Int → Int) → Int
 | [], _ => 0
 | w :: r, a => a w + Kq vars w * QdP vars r a
theorem Qi0 {vars : List Int} : ∀ (r s : List Int) (k : Int), (QbV vars r s k).length = s.length
 | [], _, _ => rfl
 | w :: r, s, k => by unfold QbV; rw [Qi0 r]; simp
theorem Qeo {vars : List Int} : ∀ {r s : List Int} {k : Int} {w : Nat}, (∀ x ∈ r, 0 ≤ x) → (w : Int) ∉ r → (QbV vars r s k)[w]? = s[w]?
 | [], _, _, _, _, _ => rfl
 | x :: r, s, k, w, h, hw => by
  unfold QbV
  rw [Qeo (fun y hy => h y (by simp [hy])) (fun hm => hw (by simp [hm])), List.getElem?_set_ne]
  intro e
  have := h x (by simp)
  exact hw (by simp; left; omega)
theorem QjR {vars : List Int} : ∀ {r s : List Int} {k : Int}, r.Nodup → (∀ x ∈ r, 0 ≤ x ∧ x.toNat < s.length ∧ 1 ≤ Kq vars x) → ∀ x ∈ r, ∃ y, (QbV vars r s k)[x.toNat]? = some y ∧ 0 ≤ y ∧ y < Kq vars x
 | [], _, _, _, _, x, hx => by simp at hx
 | w :: r, s, k, hn, h, x, hx => by
  obtain ⟨hnw, hnr⟩ := List.nodup_cons.1 hn
  unfold QbV
  by_cases hxr : x ∈ r
  ·exact QjR hnr (fun y hy => by have := h y (by simp [hy]); simpa using this) x hxr
  ·rcases List.mem_cons.1 hx with rfl | hx
   ·have hr := h x (by simp)
    refine ⟨k % Kq vars x, ?_, Int.emod_nonneg _ (by omega), Int.emod_lt_of_pos _ (by omega)⟩
    rw [Qeo (fun y hy => (h y (by simp [hy])).1) (by rw [Int.toNat_of_nonneg hr.1]; exact hnw), List.getElem?_set_self hr.2.1]
   ·exact absurd hx hxr
theorem QhE {vars : List Int} {a : Int → Int} : ∀ {r : List Int}, (∀ x ∈ r, 0 ≤ a x ∧ a x < Kq vars x) → 0 ≤ QdP vars r a ∧ QdP vars r a < K5 (r.map (Kq vars))
 | [], _ => by simp [QdP, K5]
 | w :: r, h => by
  have h1 := h w (by simp)
  obtain ⟨h2, h3⟩ := QhE (vars := vars) (a := a) (r := r) fun y hy => h y (by simp [hy])
  simp only [QdP, K5, List.map_cons]
  have h4 : 0 ≤ Kq vars w * QdP vars r a := Int.mul_nonneg (by omega) h2
  have h5 : Kq vars w * (QdP vars r a + 1) ≤ Kq vars w * K5 (r.map (Kq vars)) := Int.mul_le_mul_of_nonneg_left (by omega) (by omega)
  rw [Int.mul_add, Int.mul_one] at h5
  omega
theorem Qiz {vars : List Int} {a : Int → Int} : ∀ {r s : List Int}, r.Nodup → (∀ x ∈ r, 0 ≤ x ∧ x.toNat < s.length ∧ 0 ≤ a x ∧ a x < Kq vars x) → ∀ x ∈ r, (QbV vars r s (QdP vars r a))[x.toNat]? = some (a x)
 | [], _, _, _, x, hx => by simp at hx
 | w :: r, s, hn, h, x, hx => by
  obtain ⟨hnw, hnr⟩ := List.nodup_cons.1 hn
  have hw := h w (by simp)
  have hmod : (a w + Kq vars w * QdP vars r a) % Kq vars w = a w := by rw [Int.add_mul_emod_self_left]; exact Int.emod_eq_of_lt hw.2.2.1 hw.2.2.2
  have hdiv : (a w + Kq vars w * QdP vars r a) / Kq vars w = QdP vars r a := by rw [Int.add_mul_ediv_left _ _ (by omega), Int.ediv_eq_zero_of_lt hw.2.2.1 hw.2.2.2, Int.zero_add]
  simp only [QdP, QbV, hmod, hdiv]
  by_cases hxr : x ∈ r
  ·exact Qiz hnr (fun y hy => by have := h y (by simp [hy]); simpa using this) x hxr
  ·rcases List.mem_cons.1 hx with rfl | hx
   ·rw [Qeo (fun y hy => (h y (by simp [hy])).1) (by rw [Int.toNat_of_nonneg hw.1]; exact hnw), List.getElem?_set_self hw.2.1]
   ·exact absurd hx hxr
theorem Qgf {t : Task} (hv : ∀ n ∈ t.Vars, 1 ≤ n ∧ n ≤ 64) {l : List Int} (hl : ∀ w ∈ l, 0 ≤ w ∧ w < (t.Vars.length : Int)) : ∀ (m : Nat) (s : List Int) (k : Int), m ≤ l.length → s.length = t.Vars.length → 0 ≤ k → k ≤ 4611686018427387904 →
  ∃ q, forS (fun i => J2 fun (s : List Int) (n : Int) => (Jc l ((l.length - 1 - i : Nat) : Int)).bind fun v => (Jc t.Vars v).bind fun d => (must (!decide (d = 0))).bind fun _ => (Kv s v (n.tmod d)).bind fun s' => some (s', IntKind.i64.wrap (n.tdiv d))) m (l.length - m) (s, k) = some (QbV t.Vars (l.take m).reverse s k, q)
 | 0, s, k, _, _, _, _ => ⟨k, rfl⟩
 | m + 1, s, k, hm, hs, h0, h1 => by
  obtain ⟨w, hw⟩ := QH (xs := l) (i := m) (by omega)
  have hr := hl w (List.mem_of_getElem? hw)
  have hd := KH hv hr.1 hr.2
  have e1 : Jc t.Vars w = some (Kq t.Vars w) := Qeh hr.1 hr.2
  have e0 : l.length - 1 - (l.length - (m + 1)) = m := by omega
  have hm0 : must (!decide (Kq t.Vars w = 0)) = some () := by unfold must; rw [if_pos (by simp; omega)]
  have ht1 : k.tmod (Kq t.Vars w) = k % Kq t.Vars w := Int.tmod_eq_emod_of_nonneg h0
  have ht2 : k.tdiv (Kq t.Vars w) = k / Kq t.Vars w := Int.tdiv_eq_ediv_of_nonneg h0
  have hq0 : 0 ≤ k / Kq t.Vars w := Int.ediv_nonneg h0 (by omega)
  have hq1 : k / Kq t.Vars w ≤ k := Int.ediv_le_self _ h0
  have hset : Kv s w (k % Kq t.Vars w) = some (s.set w.toNat (k % Kq t.Vars w)) := by unfold Kv; rw [if_pos ⟨hr.1, by omega⟩]
  obtain ⟨q, hq⟩ := Qgf hv hl m (s.set w.toNat (k % Kq t.Vars w)) (k / Kq t.Vars w) (by omega) (by simpa using hs) hq0 (by omega)
  refine ⟨q, ?_⟩
  rw [Jg hw, List.reverse_append, List.reverse_singleton, List.singleton_append]
  simp only [forS, J2, e0, Q6, hw, e1, hm0, Option.bind_some, ht1, ht2, hset, Jo (n := k / Kq t.Vars w) (by omega) (by omega), QbV]
  rw [show l.length - (m + 1) + 1 = l.length - m by omega]
  exact hq
theorem Qjj {t : Task} (hv : ∀ n ∈ t.Vars, 1 ≤ n ∧ n ≤ 64) {l : List Int} (hl : ∀ w ∈ l, 0 ≤ w ∧ w < (t.Vars.length : Int)) (hb : l.length ≤ 4096) {s : List Int} {k : Int} (hs : s.length = t.Vars.length) (h0 : 0 ≤ k) (h1 : k ≤ 4611686018427387904) : QcQ t l s k = some (QbV t.Vars l.reverse s k) := by
 obtain ⟨q, hq⟩ := Qgf hv hl l.length s k (Nat.le_refl _) hs h0 h1
 rw [Nat.sub_self, List.take_length] at hq
 unfold QcQ
 have hm : must (decide (l.length ≤ 17592186044415)) = some () := by unfold must; rw [if_pos (by simp; omega)]
 rw [hm]
 simp only [Option.bind_some]
 rw [hq]
 rfl
/-! ### conditions and effects -/
def Kt (f : List Fact) (s : List Int) : Prop := ∀ x ∈ f, s[x.Var.toNat]? = some x.Val
open Classical in
theorem Qhy {vars s : List Int} {f : List Fact} (hf : FactsOK vars f) (hs : s.length = vars.length) : Qa3 f s = some (decide (Kt f s)) := by
 unfold Qa3
 rw [KX (r := false) (fun x => s[x.Var.toNat]? = some x.Val)]
 ·by_cases h : Kt f s
  ·rw [decide_eq_true h]; exact if_pos h
  ·rw [decide_eq_false h]; exact if_neg h
 ·intro i x hx
  have hr := hf.r x (List.mem_of_getElem? hx)
  unfold InR at hr
  obtain ⟨y, hy⟩ := QH (xs := s) (i := x.Var.toNat) (by omega)
  have e1 : Jc s x.Var = some y := by unfold Jc; rw [if_pos hr.1, hy]
  have a1 : ¬ x.Var < 0 := by omega
  have a2 : ¬ (s.length : Int) ≤ x.Var := by omega
  simp only [Q6, hx, Option.bind_some, a1, a2, e1, hy, decide_false, Bool.false_eq_true, if_false, Option.some.injEq]
  by_cases h : y = x.Val <;> simp [h]
open Classical in
theorem Ql3 {vars s : List Int} {f : List Fact} (hf : FactsOK vars f) (hs : s.length = vars.length) : Qa7 f s = some (decide (Kt f s)) := Qhy hf hs
open Classical in
noncomputable def Qbr (effs : List Effect) (v : Int) (s : List Int) : Int := effs.foldl (fun c e => if e.Var = v ∧ Kt e.When s then e.Val else c) (s[v.toNat]?.getD 0)
open Classical in
theorem Qc3 (effs : List Effect) (e : Effect) (v : Int) (s : List Int) : Qbr (effs ++ [e]) v s = if e.Var = v ∧ Kt e.When s then e.Val else Qbr effs v s := by simp [Qbr]
theorem Qgq {v : Int} {s s' : List Int} (h0 : s[v.toNat]? = s'[v.toNat]?) {effs : List Effect} (h : ∀ e ∈ effs, e.Var = v → (Kt e.When s ↔ Kt e.When s')) : Qbr effs v s = Qbr effs v s' := by
 unfold Qbr
 rw [h0]
 generalize s'[v.toNat]?.getD 0 = c
 induction effs generalizing c with
 | nil => rfl
 | cons e effs ih =>
  simp only [List.foldl_cons]
  have he : (e.Var = v ∧ Kt e.When s) ↔ (e.Var = v ∧ Kt e.When s') := by
   constructor
   ·rintro ⟨h1, h2⟩; exact ⟨h1, (h e (by simp) h1).1 h2⟩
   ·rintro ⟨h1, h2⟩; exact ⟨h1, (h e (by simp) h1).2 h2⟩
  classical
  refine Eq.trans (congrArg (fun z => List.foldl _ z effs) ?_) (ih (fun e' he' => h e' (by simp [he'])) _)
  by_cases hc : e.Var = v ∧ Kt e.When s
  ·rw [if_pos hc, if_pos (he.1 hc)]
  ·rw [if_neg hc, if_neg fun h => hc (he.2 h)]
theorem Qgp {vars : List Int} {v : Int} {s : List Int} {x : Int} (hx : s[v.toNat]? = some x) (h0 : 0 ≤ x) (h1 : x < Kq vars v) {effs : List Effect} (h : ∀ e ∈ effs, InR vars ⟨e.Var, e.Val⟩) : 0 ≤ Qbr effs v s ∧ Qbr effs v s < Kq vars v := by
 classical
 have key : ∀ (l : List Effect) (c : Int), (∀ e ∈ l, InR vars ⟨e.Var, e.Val⟩) → 0 ≤ c → c < Kq vars v → 0 ≤ l.foldl (fun c e => if e.Var = v ∧ Kt e.When s then e.Val else c) c ∧ l.foldl (fun c e => if e.Var = v ∧ Kt e.When s then e.Val else c) c < Kq vars v := by
  intro l
  induction l with
  | nil => exact fun c _ h0 h1 => ⟨h0, h1⟩
  | cons e l ih =>
   intro c h h0 h1
   simp only [List.foldl_cons]
   have he := h e (by simp)
   by_cases hc : e.Var = v ∧ Kt e.When s
   ·rw [if_pos hc]
    refine ih _ (fun e' he' => h e' (by simp [he'])) he.2.2.1 ?_
    have := he.2.2.2
    rw [← hc.1]
    exact this
   ·rw [if_neg hc]
    exact ih _ (fun e' he' => h e' (by simp [he'])) h0 h1
 unfold Qbr
 rw [hx]
 exact key effs x h h0 h1
end Go.Pw
/- -/
set_option maxHeartbeats 4000000
namespace Go.Pw
theorem Qf5 {vars : List Int} {w : Nat} (h : w < vars.length) : vars[w]? = some (Kq vars (w : Int)) := by
 obtain ⟨d, hd⟩ := QH h
 unfold Kq
 rw [Int.toNat_natCast, hd]
 rfl
theorem StateOK.at {vars s : List Int} (h : StateOK vars s) {w : Int} (h0 : 0 ≤ w) (h1 : w < (vars.length : Int)) : ∃ x, s[w.toNat]? = some x ∧ 0 ≤ x ∧ x < Kq vars w := by
 obtain ⟨x, hx⟩ := QH (xs := s) (i := w.toNat) (by rw [h.len]; omega)
 have := Qf5 (vars := vars) (w := w.toNat) (by omega)
 rw [Int.toNat_of_nonneg h0] at this
 exact ⟨x, hx, h.r _ _ _ hx this⟩
theorem StateOK.set {vars s : List Int} (h : StateOK vars s) {w : Int} {x : Int} (h0 : 0 ≤ x) (h1 : x < Kq vars w) : StateOK vars (s.set w.toNat x) := by
 refine ⟨by simp [h.len], fun i y d hy hd => ?_⟩
 by_cases e : w.toNat = i
 ·have hlt := (List.getElem?_eq_some_iff.1 hy).1
  simp only [List.length_set] at hlt
  subst e
  rw [List.getElem?_set_self hlt] at hy
  cases hy
  unfold Kq at h1
  rw [hd] at h1
  exact ⟨h0, h1⟩
 ·rw [List.getElem?_set_ne e] at hy
  exact h.r i y d hy hd
def TB (t : Task) (o : Op) (v a b : Int) : Prop := ∃ σ, StateOK t.Vars σ ∧ σ[v.toNat]? = some a ∧ Kt o.Pre σ ∧ b = Qbr o.Effs v σ
theorem Qkq {l : List Int} (hl : l.length ≤ 4096) : Ok ((Yd l).bind fun k => (Jn k).bind <| J2 fun (n : Nat) (r : List Int) => (must (decide (n ≤ r.length))).bind fun _ => some (r.take n)) fun r => r.Pairwise (fun a b => a < b) ∧ (∀ x, x ∈ r ↔ x ∈ l) ∧ r.length ≤ l.length := by
 obtain ⟨k, hk, hp, hs⟩ := Qbg (l := l) (by omega)
 rw [hk]
 simp only [Option.bind_some]
 have hlen := hp.length_eq
 obtain ⟨⟨n, r⟩, hc, h1, h2, h3⟩ := QdZ (eq := fun a b : Int => decide (a = b)) (by simp) 0 k (by omega)
 simp only at h1 h2 h3
 have hc' : Jn k = some (n, r) := hc
 rw [hc']
 simp only [Option.bind_some, J2]
 refine Ok.must (by simp; omega) (Ok.ret ?_)
 rw [h3]
 refine ⟨(Qd5 (le := fun a b => a ≤ b) (lt := fun a b => a < b) (by intro a b h hne; omega) (by intro a b c h h'; omega) (by intro a b c h h'; omega) k none hs (by simp)).1, fun x => ?_, ?_⟩
 ·rw [Qjk, hp.mem_iff]
 ·have := Qh3 k none
  omega
theorem Qjs {t : Task} (ht : GoodT t) {i : Nat} {o : Op} (hi : t.Ops[i]? = some o) {v a : Int} (hv0 : 0 ≤ v) (hv1 : v < (t.Vars.length : Int)) (ha0 : 0 ≤ a) (ha1 : a < Kq t.Vars v) {fr : List Int} (hfn : fr.Nodup) (hfm : ∀ w, w ∈ fr ↔ Qkk o v w)
  (hbig : K5 (fr.map (Kq t.Vars)) ≤ 4096) : Ok (Kn t (i : Int) [v] fr a) fun L => L.Pairwise (fun a b => a < b) ∧ (∀ b, b ∈ L ↔ TB t o v a b) ∧ (L.length : Int) ≤ K5 (fr.map (Kq t.Vars)) := by
 classical
 have hop := ht.op o (List.mem_of_getElem? hi)
 have hdv := KH ht.v hv0 hv1
 have hnv := ht.nv
 have hfr : ∀ w ∈ fr, 0 ≤ w ∧ w < (t.Vars.length : Int) := by
  intro w hw
  obtain ⟨_, _, e, he, _, f, hf, rfl⟩ := (hfm w).1 hw
  have := (hop.eff e he).1.r f hf
  exact ⟨this.1, this.2.1⟩
 have hfl := QaV hfn hfr
 have hfd : ∀ x ∈ fr.map (Kq t.Vars), 1 ≤ x := by
  intro x hx
  obtain ⟨w, hw, rfl⟩ := List.mem_map.1 hx
  exact (KH ht.v (hfr w hw).1 (hfr w hw).2).1
 have hP1 := Qb4 hfd
 have hvf : v ∉ fr := fun h => ((hfm v).1 h).1 rfl
 unfold Kn
 rw [Q6, hi]
 simp only [Option.bind_some]
 refine Ok.step (QaK (by omega) (by omega)) ?_
 have hput0 : QcQ t [v] (List.replicate t.Vars.length 0) a = some ((List.replicate t.Vars.length (0 : Int)).set v.toNat a) := by
  rw [Qjj ht.v (by simp [hv0, hv1]) (by simp) (by simp) ha0 (by omega)]
  simp only [List.reverse_singleton, QbV]
  rw [Int.emod_eq_of_lt ha0 ha1]
 refine Ok.step hput0 ?_
 have hst0 : StateOK t.Vars (List.replicate t.Vars.length 0) := by
  refine ⟨by simp, fun j x d hx hd => ?_⟩
  have hx0 : x = 0 := by
   have := List.mem_of_getElem? hx
   exact (List.mem_replicate.1 this).2
  have := ht.v d (List.mem_of_getElem? hd)
  omega
 have hst1 : StateOK t.Vars ((List.replicate t.Vars.length (0 : Int)).set v.toNat a) := hst0.set ha0 ha1
 have hst1v : ((List.replicate t.Vars.length (0 : Int)).set v.toNat a)[v.toNat]? = some a := by rw [List.getElem?_set_self (by simp; omega)]
 refine Ok.ctl (fun j s => StateOK t.Vars s ∧ s[v.toNat]? = some a ∧ Kt (o.Pre.take j) s) (fun r => r = [] ∧ ∃ x ∈ o.Pre, x.Var = v ∧ x.Val ≠ a) ⟨hst1, hst1v, by simp [Kt]⟩ ?_ ?_ ?_
 ·rintro j s hj ⟨g1, g2, g3⟩
  obtain ⟨x, hx⟩ := QH hj
  have hxm := List.mem_of_getElem? hx
  have hr := hop.pre.r x hxm
  have hbef : ∀ y ∈ o.Pre.take j, y.Var < x.Var := by
   have := hop.pre.take (j + 1)
   rw [Jg hx] at this
   exact (FactsOK.snoc.1 this).2.2
  simp only [Q6, hx, Option.bind_some, QaQ, List.mem_singleton]
  by_cases h1 : x.Var = v
  ·have e1 : Jc s x.Var = some a := by unfold Jc; rw [if_pos hr.1, h1, g2]
   simp only [h1, decide_true, if_true]
   rw [h1] at e1
   simp only [e1, Option.bind_some]
   by_cases h2 : a = x.Val
   ·simp only [h2, decide_true, Bool.not_true, Bool.false_eq_true, if_false]
    refine Ok.ret ⟨g1, h2 ▸ g2, ?_⟩
    rw [Jg hx]
    intro y hy
    rcases List.mem_append.1 hy with hy | hy
    ·exact g3 y hy
    ·simp only [List.mem_singleton] at hy; subst hy; rw [h1, g2, h2]
   ·simp only [h2, decide_false, Bool.not_false, if_true]
    exact Ok.ret ⟨Z, x, hxm, h1, fun e => h2 e.symm⟩
  ·obtain ⟨y, hy, _⟩ := g1.at hr.1 hr.2.1
   have e1 : Jc s x.Var = some y := by unfold Jc; rw [if_pos hr.1, hy]
   have hlt : x.Var.toNat < s.length := by rw [g1.len]; have := hr.1; have := hr.2.1; omega
   have e2 : Kv s x.Var x.Val = some (s.set x.Var.toNat x.Val) := by unfold Kv; rw [if_pos ⟨hr.1, hlt⟩]
   simp only [h1, decide_false, Bool.false_eq_true, if_false, e1, e2, Option.bind_some]
   refine Ok.ret ⟨g1.set hr.2.2.1 hr.2.2.2, ?_, ?_⟩
   ·rw [List.getElem?_set_ne (by have := hr.1; omega)]; exact g2
   ·rw [Jg hx]
    intro z hz
    rcases List.mem_append.1 hz with hz | hz
    ·have := hbef z hz
     have hz0 := (hop.pre.r z (List.mem_of_mem_take hz)).1
     rw [List.getElem?_set_ne (by omega)]
     exact g3 z hz
    ·simp only [List.mem_singleton] at hz; subst hz; rw [List.getElem?_set_self hlt]
 ·rintro r ⟨rfl, x, hx, h1, h2⟩
  refine Ok.ret ⟨by simp, fun b => ⟨fun h => by simp at h, ?_⟩, by simp; omega⟩
  rintro ⟨σ, s1, s2, s3, _⟩
  have := s3 x hx
  rw [h1, s2] at this
  exact absurd (Zu this).symm h2
 ·rintro s2 ⟨g1, g2, g3⟩
  rw [List.take_length] at g3
  obtain ⟨r, hr, hr2⟩ := QfX ht.v hfr
  have hr3 : r = (K5 (fr.map (Kq t.Vars)), true) := by
   rcases hr2 with ⟨_, h⟩ | ⟨h, _⟩
   ·exact h
   ·omega
  subst hr3
  refine Ok.step hr ?_
  simp only [J2]
  refine Ok.must (by simp; omega) (Ok.bind ?_)
  generalize hN : (K5 (fr.map (Kq t.Vars))) = N at *
  have hrev : ∀ w, w ∈ fr.reverse ↔ w ∈ fr := fun w => List.mem_reverse
  have hrn : fr.reverse.Nodup := (List.reverse_perm fr).nodup_iff.2 hfn
  have hNr : K5 (fr.reverse.map (Kq t.Vars)) = N := by rw [← hN]; exact Qep ((List.reverse_perm fr).map _)
  have hagree : ∀ σ σ', StateOK t.Vars σ → StateOK t.Vars σ' → σ[v.toNat]? = some a → σ'[v.toNat]? = some a → Kt o.Pre σ → Kt o.Pre σ' → (∀ w ∈ fr, σ[w.toNat]? = σ'[w.toNat]?) → Qbr o.Effs v σ = Qbr o.Effs v σ' := by
   intro σ σ' k1 k2 k3 k4 k5 k6 k7
   refine Qgq (by rw [k3, k4]) fun e he hev => ?_
   have hsame : ∀ f ∈ e.When, σ[f.Var.toNat]? = σ'[f.Var.toNat]? := by
    intro f hf
    by_cases c1 : f.Var = v
    ·rw [c1, k3, k4]
    ·by_cases c2 : ∃ x ∈ o.Pre, x.Var = f.Var
     ·obtain ⟨x, hx, hxe⟩ := c2
      rw [← hxe, k5 x hx, k6 x hx]
     ·exact k7 _ ((hfm _).2 ⟨c1, c2, e, he, hev, f, hf, Z⟩)
   constructor
   ·intro h f hf; rw [← hsame f hf]; exact h f hf
   ·intro h f hf; rw [hsame f hf]; exact h f hf
  refine J5 (fun k q => q.1.length = k ∧ StateOK t.Vars q.2 ∧ q.2[v.toNat]? = some a ∧ Kt o.Pre q.2 ∧ (∀ b ∈ q.1, TB t o v a b) ∧
    ∀ σ, StateOK t.Vars σ → σ[v.toNat]? = some a → Kt o.Pre σ → QdP t.Vars fr.reverse (fun w => σ[w.toNat]?.getD 0) < (k : Int) → Qbr o.Effs v σ ∈ q.1) ?_ ?_ ?_
  ·refine ⟨Z, g1, g2, g3, by simp, ?_⟩
   intro σ k1 k2 k3 hlt
   have := (QhE (vars := t.Vars) (a := fun w => σ[w.toNat]?.getD 0) (r := fr.reverse) fun w hw => by
    obtain ⟨x, hx, h0, h1⟩ := k1.at (hfr w ((hrev w).1 hw)).1 (hfr w ((hrev w).1 hw)).2
    simp only [hx, Option.getD_some]; exact ⟨h0, h1⟩).1
   omega
  ·rintro k ⟨out, l⟩ hk ⟨f1, f2, f3, f4, f5, f6⟩
   simp only at f1 f2 f3 f4 f5 f6
   have hkN : (k : Int) < N := by omega
   have hput : QcQ t fr l (k : Int) = some (QbV t.Vars fr.reverse l k) := Qjj ht.v hfr (by omega) f2.len (by omega) (by omega)
   have hprem : ∀ x ∈ fr.reverse, 0 ≤ x ∧ x.toNat < l.length ∧ 1 ≤ Kq t.Vars x := by
    intro x hx
    have h := hfr x ((hrev x).1 hx)
    exact ⟨h.1, by rw [f2.len]; omega, (KH ht.v h.1 h.2).1⟩
   have hout : ∀ w : Int, 0 ≤ w → w ∉ fr → (QbV t.Vars fr.reverse l (k : Int))[w.toNat]? = l[w.toNat]? := by
    intro w h0 hw
    refine Qeo (fun x hx => (hprem x hx).1) ?_
    rw [Int.toNat_of_nonneg h0]
    exact fun h => hw ((hrev w).1 h)
   have hl'len : (QbV t.Vars fr.reverse l (k : Int)).length = t.Vars.length := by rw [Qi0, f2.len]
   have hl'ok : StateOK t.Vars (QbV t.Vars fr.reverse l (k : Int)) := by
    refine ⟨hl'len, fun j x d hx hd => ?_⟩
    have hjl := (List.getElem?_eq_some_iff.1 hd).1
    have hdj := Qf5 hjl
    rw [hd] at hdj
    have hdj := Zu hdj
    by_cases hm : (j : Int) ∈ fr
    ·obtain ⟨y, hy, h0, h1⟩ := QjR (vars := t.Vars) (s := l) (k := (k : Int)) hrn hprem (j : Int) ((hrev _).2 hm)
     rw [Int.toNat_natCast, hx] at hy
     cases hy
     omega
    ·have := hout (j : Int) (by omega) hm
     rw [Int.toNat_natCast] at this
     rw [this] at hx
     exact f2.r j x d hx hd
   have hl'v : (QbV t.Vars fr.reverse l (k : Int))[v.toNat]? = some a := by rw [hout v hv0 hvf, f3]
   have hl'p : Kt o.Pre (QbV t.Vars fr.reverse l (k : Int)) := by
    intro x hx
    rw [hout x.Var (hop.pre.r x hx).1 (fun h => ((hfm _).1 h).2.1 ⟨x, hx, rfl⟩)]
    exact f4 x hx
   have hnum : ∀ σ, StateOK t.Vars σ → σ[v.toNat]? = some a → Kt o.Pre σ → QdP t.Vars fr.reverse (fun w => σ[w.toNat]?.getD 0) = (k : Int) → Qbr o.Effs v σ = Qbr o.Effs v (QbV t.Vars fr.reverse l (k : Int)) := by
    intro σ k1 k2 k3 hnk
    refine hagree σ _ k1 hl'ok k2 hl'v k3 hl'p fun w hw => ?_
    have h := hfr w hw
    obtain ⟨x, hx, h0, h1⟩ := k1.at h.1 h.2
    have := Qiz (vars := t.Vars) (a := fun w => σ[w.toNat]?.getD 0) (s := l) hrn (fun y hy => by
     have h := hfr y ((hrev y).1 hy)
     obtain ⟨x, hx, h0, h1⟩ := k1.at h.1 h.2
     simp only [hx, Option.getD_some]
     exact ⟨h.1, by rw [f2.len]; omega, h0, h1⟩) w ((hrev w).2 hw)
    rw [hnk] at this
    rw [this, hx]
    rfl
   generalize QbV t.Vars fr.reverse l (k : Int) = l' at *
   simp only [J2, hput, Option.bind_some]
   have hclone : Jr l' = some l' := by
    unfold Jr
    rw [JM (by simp; omega)]
    simp
   simp only [hclone, Option.bind_some]
   refine Ok.bind (J5 (fun j m => m.length = t.Vars.length ∧ m[v.toNat]? = some (Qbr (o.Effs.take j) v l')) ⟨hl'len, by simp [Qbr, hl'v]⟩ ?_ ?_)
   ·rintro j m hj ⟨e1, e2⟩
    obtain ⟨e, he⟩ := QH hj
    have hem := List.mem_of_getElem? he
    have her := hop.eff e hem
    have her2 := her.2
    unfold InR at her2
    simp only at her2
    simp only [Q6, he, Option.bind_some, QaQ, List.mem_singleton]
    by_cases h1 : e.Var = v
    ·simp only [h1, decide_true, if_true, Ql3 her.1 hl'len, Option.bind_some]
     by_cases h2 : Kt e.When l'
     ·have i1 : Jc m v = some (Qbr (o.Effs.take j) v l') := by unfold Jc; rw [if_pos hv0, e2]
      have i2 : Kv m v e.Val = some (m.set v.toNat e.Val) := by unfold Kv; rw [if_pos ⟨hv0, by omega⟩]
      simp only [h2, decide_true, if_true, i1, i2, Option.bind_some]
      refine Ok.ret ⟨by simp [e1], ?_⟩
      rw [Jg he, Qc3, if_pos ⟨h1, h2⟩, List.getElem?_set_self (by omega)]
     ·simp only [h2, decide_false, Bool.false_eq_true, if_false, Option.bind_some]
      refine Ok.ret ⟨e1, ?_⟩
      rw [Jg he, Qc3, if_neg (fun h => h2 h.2)]
      exact e2
    ·simp only [h1, decide_false, Bool.false_eq_true, if_false, Option.bind_some]
     refine Ok.ret ⟨e1, ?_⟩
     rw [Jg he, Qc3, if_neg (fun h => h1 h.1)]
     exact e2
   ·rintro m ⟨e1, e2⟩
    rw [List.take_length] at e2
    have hrange := Qgp (vars := t.Vars) hl'v ha0 ha1 (effs := o.Effs) fun e he => (hop.eff e he).2
    rw [Qk2 ht.v hv0 hv1 e2 hrange.1 (by omega)]
    simp only [Option.bind_some]
    rw [JM (by simp only [List.length_singleton]; omega)]
    refine Ok.ret ⟨by simp [f1], hl'ok, hl'v, hl'p, fun b hb => ?_, fun σ k1 k2 k3 hlt => ?_⟩
    ·rcases List.mem_append.1 hb with hb | hb
     ·exact f5 b hb
     ·simp only [List.mem_singleton] at hb
      exact ⟨l', hl'ok, hl'v, hl'p, hb⟩
    ·by_cases hlt' : QdP t.Vars fr.reverse (fun w => σ[w.toNat]?.getD 0) < (k : Int)
     ·exact List.mem_append_left _ (f6 σ k1 k2 k3 hlt')
     ·refine List.mem_append_right _ ?_
      rw [hnum σ k1 k2 k3 (by omega)]
      simp
  ·rintro ⟨out, l⟩ ⟨f1, f2, f3, f4, f5, f6⟩
   simp only at f1 f2 f3 f4 f5 f6
   refine Ok.mono (Qkq (l := out) (by omega)) ?_
   rintro L ⟨h1, h2, h3⟩
   refine ⟨h1, fun b => ?_, by omega⟩
   rw [h2]
   constructor
   ·exact f5 b
   ·rintro ⟨σ, k1, k2, k3, rfl⟩
    refine f6 σ k1 k2 k3 ?_
    have := (QhE (vars := t.Vars) (a := fun w => σ[w.toNat]?.getD 0) (r := fr.reverse) fun w hw => by
     obtain ⟨x, hx, h0, h1⟩ := k1.at (hfr w ((hrev w).1 hw)).1 (hfr w ((hrev w).1 hw)).2
     simp only [hx, Option.getD_some]; exact ⟨h0, h1⟩).2
    rw [hNr] at this
    omega
end Go.Pw
/- -/
set_option maxHeartbeats 4000000
namespace Go.Pw
def AE (t : Task) (v : Int) (e : Edge) : Prop := ∃ (i : Nat) (o : Op), t.Ops[i]? = some o ∧ e.Label = (i : Int) ∧ TB t o v e.From e.To
def Qjl (t : Task) (v a : Int) : Prop := ∀ f ∈ t.Goal, f.Var = v → f.Val = a
structure AtomRes (t : Task) (v : Int) (x : System) : Prop where
 s : x.States = Kq t.Vars v
 i : t.Init[v.toNat]? = some x.Init
 c : x.Costs = t.Ops.map fun o => o.Cost
 gl : (x.Goals.length : Int) = Kq t.Vars v
 g : ∀ a : Nat, (a : Int) < Kq t.Vars v → ∃ b, x.Goals[a]? = some b ∧ (b = true ↔ Qjl t v a)
 srt : Srt x.Edges
 mem : ∀ e, e ∈ x.Edges ↔ AE t v e
 n : x.Edges.length ≤ 65536
theorem AtomRes.uniq {t : Task} {v : Int} {x y : System} (h : AtomRes t v x) (k : AtomRes t v y) : x = y := by
 have h1 : x.States = y.States := by rw [h.s, k.s]
 have h2 : x.Init = y.Init := by have := h.i; rw [k.i] at this; exact (Zu this).symm
 have h3 : x.Costs = y.Costs := by rw [h.c, k.c]
 have h4 : x.Edges = y.Edges := Srt.ext h.srt k.srt fun e => by rw [h.mem, k.mem]
 have h5 : x.Goals = y.Goals := by
  apply List.ext_getElem?
  intro i
  by_cases hi : i < x.Goals.length
  ·have hlt : (i : Int) < Kq t.Vars v := by rw [← h.gl]; omega
   obtain ⟨b, hb, hb2⟩ := h.g i hlt
   obtain ⟨c, hc, hc2⟩ := k.g i hlt
   rw [hb, hc]
   congr 1
   rw [Bool.eq_iff_iff, hb2, hc2]
  ·have := h.gl
   have := k.gl
   rw [List.getElem?_eq_none (by omega), List.getElem?_eq_none (by omega)]
 cases x; cases y
 simp only at *
 subst h1 h2 h3 h4 h5
 rfl
abbrev noS : System := ⟨0, 0, [], [], []⟩
theorem Qlw {t : Task} {v : Int} (hn : ∀ o ∈ t.Ops, o.Name.size ≤ 9223372036854775807) : Ok (KW t [v]) fun e => e = none ↔ GoodT t ∧ 0 ≤ v ∧ v < (t.Vars.length : Int) := by
 unfold KW
 obtain ⟨e, he, hg⟩ := Qdh t hn
 rw [he]
 simp only [Option.bind_some]
 cases e with
 | some e =>
  simp only [Option.isSome_some, if_true]
  refine Ok.ret ⟨fun h => (by cases h), fun h => ?_⟩
  have := hg.2 h.1
  cases this
 | none =>
  have hG := hg.1 rfl
  simp only [Option.isSome_none, Bool.false_eq_true, if_false]
  simp only [List.length_singleton, JS, ctl, Q6, List.getElem?_cons_zero, Option.bind_some]
  by_cases h1 : v < 0
  ·simp only [h1, decide_true, if_true, Option.bind_some]
   exact Ok.ret ⟨fun h => (by cases h), fun h => by omega⟩
  by_cases h2 : (t.Vars.length : Int) ≤ v
  ·simp only [h1, h2, decide_true, decide_false, Bool.false_eq_true, if_false, if_true, Option.bind_some]
   exact Ok.ret ⟨fun h => (by cases h), fun h => by omega⟩
  simp only [h1, h2, decide_false, Bool.false_eq_true, if_false, Option.bind_some]
  rw [if_neg (by simp)]
  exact Ok.ret ⟨fun _ => ⟨hG, by omega, by omega⟩, fun _ => rfl⟩
open Classical in
theorem Qk9 {t : Task} (hg : FactsOK t.Vars t.Goal) {v a : Int} {s : List Int} (hs : s[v.toNat]? = some a) : Ok (forS (fun i => fun (goal : Bool) => (Jc t.Goal (i : Int)).bind fun x =>
  (if goal then ((QU [v] x.Var).bind <| fun (y : Bool) =>
  if !y then (some true)
  else ((Jc s x.Var).bind fun z =>
  some (decide (z = x.Val))))
  else (some false)).bind (fun (goal : Bool) => some goal)) (t.Goal.length) 0 true) fun b => b = decide (Qjl t v a) := by
 refine J5 (fun i b => b = decide (∀ f ∈ t.Goal.take i, f.Var = v → f.Val = a)) (by simp) ?_ ?_
 ·rintro i b hi rfl
  obtain ⟨x, hx⟩ := QH hi
  have hr := hg.r x (List.mem_of_getElem? hx)
  simp only [Q6, hx, Option.bind_some, QaQ, List.mem_singleton, Jg hx]
  by_cases h1 : ∀ f ∈ t.Goal.take i, f.Var = v → f.Val = a
  ·by_cases h2 : x.Var = v
   ·have e1 : Jc s x.Var = some a := by unfold Jc; rw [if_pos hr.1, h2, hs]
    rw [h2] at e1
    simp only [h2, e1, decide_true, Bool.not_true, Bool.false_eq_true, if_false, Option.bind_some]
    rw [if_pos (by simpa using h1)]
    refine Ok.ret ?_
    by_cases h3 : a = x.Val
    ·rw [decide_eq_true h3, decide_eq_true]
     intro f hf hv
     rcases List.mem_append.1 hf with hf | hf
     ·exact h1 f hf hv
     ·simp only [List.mem_singleton] at hf; subst hf; exact h3.symm
    ·rw [decide_eq_false h3, decide_eq_false]
     intro h
     exact h3 (h x (by simp) h2).symm
   ·simp only [h2, decide_false, Bool.not_false, if_true]
    rw [if_pos (by simpa using h1)]
    refine Ok.ret ?_
    rw [decide_eq_true]
    intro f hf hv
    rcases List.mem_append.1 hf with hf | hf
    ·exact h1 f hf hv
    ·simp only [List.mem_singleton] at hf; subst hf; exact absurd hv h2
  ·rw [if_neg (by simpa using h1)]
   refine Ok.ret ?_
   rw [decide_eq_false]
   exact fun h => h1 fun f hf hv => h f (by simp [hf]) hv
 ·rintro b rfl
  rw [List.take_length]
  exact decide_eq_decide.2 Iff.rfl
def Qjc (t : Task) (v : Int) : Prop := ∃ M : Nat, (∀ o ∈ t.Ops, ∀ fr : List Int, fr.Nodup → (∀ w, w ∈ fr ↔ Qkk o v w) → K5 (fr.map (Kq t.Vars)) ≤ M) ∧ M ≤ 4096 ∧ (Kq t.Vars v).toNat * t.Ops.length * M < 65536
theorem QiI {t : Task} {v : Int} (ht : GoodT t) (h0 : 0 ≤ v) (h1 : v < (t.Vars.length : Int)) (hn : ∀ o ∈ t.Ops, o.Name.size ≤ 9223372036854775807) :
  Ok (J6 t [v]) fun r => (r.1 = none ∧ AtomRes t v r.2) ∨ (r.1 = some 5 ∧ r.2 = noS ∧ ¬ Qjc t v) := by
 classical
 have hd := KH ht.v h0 h1
 have hno := ht.no
 have hnv := ht.nv
 unfold J6
 obtain ⟨e, he, hg⟩ := Qlw (t := t) (v := v) hn
 obtain rfl := hg.2 ⟨ht, h0, h1⟩
 rw [he]
 simp only [Option.bind_some, Option.isSome_none, Bool.false_eq_true, if_false]
 obtain ⟨r, hr, hr2⟩ := QfX ht.v (l := [v]) (by simp [h0, h1])
 have hpv : K5 ([v].map (Kq t.Vars)) = Kq t.Vars v := by simp [K5]
 have hr3 : r = (Kq t.Vars v, true) := by
  rw [hpv] at hr2
  rcases hr2 with ⟨_, h⟩ | ⟨h, _⟩
  ·exact h
  ·omega
 subst hr3
 rw [hr]
 obtain ⟨x0, hx0, hx1, hx2⟩ := ht.init.at h0 h1
 simp only [Option.bind_some, J2, Bool.not_true, Bool.false_eq_true, if_false, QjT ht.v h0 h1 hx0 hx1 (by omega)]
 refine Ok.step (QaK (by omega) (by omega)) ?_
 refine Ok.ctl (fun i q => q.1 = (t.Ops.take i).map (fun o => o.Cost) ∧ q.2.length = t.Ops.length ∧ ∀ j o, j < i → t.Ops[j]? = some o → ∃ fr, q.2[j]? = some fr ∧ fr.Nodup ∧ (∀ w, w ∈ fr ↔ Qkk o v w) ∧ K5 (fr.map (Kq t.Vars)) ≤ 4096)
  (fun r => r = (some 5, noS) ∧ ¬ Qjc t v) ⟨by simp, by simp, fun j o hj => by omega⟩ ?_ ?_ ?_
 ·rintro i ⟨cs, fs⟩ hi ⟨g1, g2, g3⟩
  simp only at g1 g2 g3
  obtain ⟨o, ho⟩ := QH hi
  have hom := List.mem_of_getElem? ho
  have hop := ht.op o hom
  obtain ⟨fr, hf, hf1, hf2⟩ := Qjz hop hnv (v := v)
  have hfr : ∀ w ∈ fr, 0 ≤ w ∧ w < (t.Vars.length : Int) := by
   intro w hw
   obtain ⟨_, _, e, he, _, f, hf, rfl⟩ := (hf2 w).1 hw
   have := (hop.eff e he).1.r f hf
   exact ⟨this.1, this.2.1⟩
  obtain ⟨y, hy⟩ := QH (xs := fs) (i := i) (by omega)
  simp only [J2, Q6, ho, Option.bind_some]
  rw [JM (by rw [g1]; simp; omega)]
  simp only [Option.bind_some, hf, hy, JB (show i < fs.length by omega)]
  rw [List.getElem?_set_self (by omega)]
  simp only [Option.bind_some]
  obtain ⟨r, hr, hr2⟩ := QfX ht.v hfr
  rw [hr]
  simp only [Option.bind_some]
  rcases hr2 with ⟨h2, rfl⟩ | ⟨h2, rfl⟩
  ·simp only [J2, Bool.not_true, Bool.false_eq_true, if_false]
   refine Ok.ret ⟨by simp only; rw [g1, Jg ho]; simp, by simp [g2], fun j o' hj ho' => ?_⟩
   by_cases e : j = i
   ·subst e
    rw [ho] at ho'; cases ho'
    exact ⟨fr, by simp only; rw [List.getElem?_set_self (by omega)], hf1, hf2, h2⟩
   ·simp only
    rw [List.getElem?_set_ne (Ne.symm e)]
    exact g3 j o' (by omega) ho'
  ·simp only [J2, Bool.not_false, if_true]
   refine Ok.ret ⟨Z, ?_⟩
   rintro ⟨M, hM, hM2, _⟩
   have := hM o hom fr hf1 hf2
   omega
 ·rintro r ⟨rfl, h⟩
  exact Ok.ret (.inr ⟨Z, Z, h⟩)
 rintro ⟨cs, fs⟩ ⟨g1, g2, g3⟩
 simp only at g1 g2 g3
 rw [List.take_length] at g1
 simp only [J2]
 refine Ok.step (QaK (by omega) (by omega)) (Ok.must (by simp; omega) ?_)
 have hdn : ((Kq t.Vars v).toNat : Int) = Kq t.Vars v := by omega
 generalize hD : (Kq t.Vars v).toNat = D at *
 let Bd : Nat → Prop := fun M => (∀ o ∈ t.Ops, ∀ fr : List Int, fr.Nodup → (∀ w, w ∈ fr ↔ Qkk o v w) → K5 (fr.map (Kq t.Vars)) ≤ M)
 refine Ok.ctl (fun a q => q.2.2.length = t.Vars.length ∧ q.2.1.length = a ∧ (∀ b, b < a → ∃ z, q.2.1[b]? = some z ∧ (z = true ↔ Qjl t v b)) ∧ Srt q.1 ∧ (∀ e, e ∈ q.1 ↔ AE t v e ∧ e.From < (a : Int)) ∧ q.1.length ≤ 65536 ∧ ∀ M, Bd M → q.1.length ≤ a * t.Ops.length * M)
  (fun r => r = (some 5, noS) ∧ ¬ Qjc t v) ⟨by simp, by simp, fun b hb => by omega, List.Pairwise.nil, ?_, by simp, by simp⟩ ?_ ?_ ?_
 ·intro e
  simp only [List.not_mem_nil, false_iff]
  rintro ⟨⟨i, o, _, _, σ, hσ, hv, _⟩, hlt⟩
  obtain ⟨y, hy, hy0, _⟩ := hσ.at h0 h1
  rw [hy] at hv
  have := Zu hv
  omega
 ·rintro a ⟨E, G, s⟩ ha ⟨k1, k2, k3, k4, k5, k6, k7⟩
  simp only at k1 k2 k3 k4 k5 k6 k7
  have haD : (a : Int) < Kq t.Vars v := by omega
  have hput : QcQ t [v] s (a : Int) = some (s.set v.toNat a) := by
   rw [Qjj ht.v (by simp [h0, h1]) (by simp) k1 (by omega) (by omega)]
   simp only [List.reverse_singleton, QbV]
   rw [Int.emod_eq_of_lt (by omega) haD]
  have hsv : (s.set v.toNat (a : Int))[v.toNat]? = some (a : Int) := by rw [List.getElem?_set_self (by omega)]
  simp only [un3, hput, Option.bind_some]
  obtain ⟨b, hb, hb2⟩ := Qk9 ht.goal hsv
  subst hb2
  refine Ok.step hb ?_
  rw [JM (by simp only [List.length_singleton]; omega)]
  simp only [Option.bind_some]
  refine Ok.ctl (fun i E' => Srt E' ∧ (∀ e, e ∈ E' ↔ AE t v e ∧ (e.From < (a : Int) ∨ e.From = (a : Int) ∧ e.Label < (i : Int))) ∧ E'.length ≤ 65536 ∧ ∀ M, Bd M → E'.length ≤ (a * t.Ops.length + i) * M)
   (fun r => r = (some 5, noS) ∧ ¬ Qjc t v) ⟨k4, fun e => ?_, k6, fun M hM => by simpa using k7 M hM⟩ ?_ ?_ ?_
  ·rw [k5]
   constructor
   ·rintro ⟨h1, h2⟩; exact ⟨h1, .inl h2⟩
   ·rintro ⟨h1, h2 | ⟨h2, h3⟩⟩
    ·exact ⟨h1, h2⟩
    ·obtain ⟨i, o, _, h4, _⟩ := h1
     omega
  ·rintro i E' hi ⟨f1, f2, f3, f4⟩
   obtain ⟨o, ho⟩ := QH hi
   have hom := List.mem_of_getElem? ho
   obtain ⟨fr, hfr, hf1, hf2, hf3⟩ := g3 i o hi ho
   obtain ⟨L, hL, hL1, hL2, hL3⟩ := Qjs ht ho h0 h1 (a := (a : Int)) (by omega) haD hf1 hf2 hf3
   simp only [Q6, hfr, hL, Option.bind_some]
   refine Ok.ctl (fun j E2 => E2 = E' ++ (L.take j).map (fun b => (⟨(a : Int), (i : Int), b⟩ : Edge)) ∧ E2.length ≤ 65536) (fun r => r = (some 5, noS) ∧ ¬ Qjc t v) ⟨by simp, f3⟩ ?_ ?_ ?_
   ·rintro j E2 hj ⟨e1, e2⟩
    obtain ⟨b, hb⟩ := QH hj
    simp only [Q6, hb, Option.bind_some]
    by_cases hc : (E2.length : Int) = 65536
    ·simp only [hc, decide_true, if_true]
     refine Ok.ret ⟨Z, ?_⟩
     rintro ⟨M, hM, hM2, hM3⟩
     rw [hD] at hM3
     have hbd : Bd M := hM
     have q1 := f4 M hbd
     have q2 := hM o hom fr hf1 hf2
     have q3 : E2.length = E'.length + j := by rw [e1]; simp; omega
     have q4 : (a * t.Ops.length + i) * M + M ≤ D * t.Ops.length * M := by
      rw [← Nat.succ_mul]
      refine Nat.mul_le_mul_right _ ?_
      have : (a + 1) * t.Ops.length ≤ D * t.Ops.length := Nat.mul_le_mul_right _ ha
      rw [Nat.succ_mul] at this
      omega
     omega
    ·simp only [hc, decide_false, Bool.false_eq_true, if_false]
     rw [JM (by simp only [List.length_singleton]; omega)]
     simp only [Option.bind_some]
     refine Ok.ret ⟨?_, by simp; omega⟩
     rw [Jg hb, e1]
     simp
   ·rintro r h
    exact Ok.ret h
   ·rintro E2 ⟨e1, e2⟩
    rw [List.take_length] at e1
    subst e1
    refine Ok.ret ⟨?_, fun e => ?_, e2, fun M hM => ?_⟩
    ·refine List.pairwise_append.2 ⟨f1, ?_, ?_⟩
     ·refine List.pairwise_map.2 (hL1.imp ?_)
      intro x y hxy
      exact .inr ⟨Z, .inr ⟨Z, hxy⟩⟩
     ·intro x hx y hy
      obtain ⟨b, hb, rfl⟩ := List.mem_map.1 hy
      rcases ((f2 x).1 hx).2 with h | ⟨h, h'⟩
      ·exact .inl h
      ·exact .inr ⟨h, .inl h'⟩
    ·rw [List.mem_append, f2, List.mem_map]
     constructor
     ·rintro (⟨h2, h3⟩ | ⟨b, hb, rfl⟩)
      ·exact ⟨h2, by omega⟩
      ·exact ⟨⟨i, o, ho, Z, (hL2 b).1 hb⟩, .inr ⟨Z, by simp only; omega⟩⟩
     ·rintro ⟨h2, h3⟩
      by_cases h4 : e.From = (a : Int) ∧ e.Label = (i : Int)
      ·obtain ⟨i', o', ho', hl', hT⟩ := h2
       have : i' = i := by omega
       subst this
       rw [ho] at ho'; cases ho'
       rw [h4.1] at hT
       refine .inr ⟨e.To, (hL2 _).2 hT, ?_⟩
       cases e
       simp only at *
       rw [h4.1, h4.2]
      ·exact .inl ⟨h2, by omega⟩
    ·have q1 := f4 M hM
     have q2 := hM o hom fr hf1 hf2
     rw [← Nat.add_assoc, Nat.succ_mul]
     simp only [List.length_append, List.length_map]
     omega
  ·rintro r ⟨rfl, h⟩
   exact Ok.ret ⟨Z, h⟩
  ·rintro E' ⟨f1, f2, f3, f4⟩
   refine Ok.ret ⟨by simp [k1], by simp [k2], fun b hb => ?_, f1, fun e => ?_, f3, fun M hM => ?_⟩
   ·simp only
    by_cases e : b = a
    ·subst e
     exact ⟨_, by rw [List.getElem?_append_right (by omega), k2, Nat.sub_self]; rfl, by simp⟩
    ·rw [List.getElem?_append_left (by omega)]
     exact k3 b (by omega)
   ·simp only
    rw [f2]
    constructor
    ·rintro ⟨h2, h3⟩; exact ⟨h2, by omega⟩
    ·rintro ⟨h2, h3⟩
     have h4 := h2
     obtain ⟨i', o', ho', hl', hT⟩ := h4
     have := (List.getElem?_eq_some_iff.1 ho').1
     exact ⟨h2, by omega⟩
   ·have := f4 M hM
    simp only
    rw [Nat.succ_mul]
    exact this
 ·rintro r ⟨rfl, h⟩
  exact Ok.ret (.inr ⟨Z, Z, h⟩)
 ·rintro ⟨E, G, s⟩ ⟨k1, k2, k3, k4, k5, k6, k7⟩
  simp only at k1 k2 k3 k4 k5 k6 k7
  simp only [un3]
  refine Ok.ret (.inl ⟨Z, Z, hx0, g1, by simp only; omega, fun a ha => k3 a (by omega), k4, fun e => ?_, k6⟩)
  simp only
  rw [k5]
  constructor
  ·exact fun h => h.1
  ·intro h
   refine ⟨h, ?_⟩
   obtain ⟨_, _, _, _, σ, hσ, hv, _⟩ := h
   obtain ⟨y, hy, _, hy1⟩ := hσ.at h0 h1
   rw [hy] at hv
   have := Zu hv
   omega
theorem QkM {t : Task} {v : Int} (hn : ∀ o ∈ t.Ops, o.Name.size ≤ 9223372036854775807) : Ok (Yk t v) fun r =>
  (GoodT t ∧ 0 ≤ v ∧ v < (t.Vars.length : Int) → (r.1 = none ∧ AtomRes t v r.2) ∨ (r.1 = some 5 ∧ r.2 = noS ∧ ¬ Qjc t v)) ∧ (¬ (GoodT t ∧ 0 ≤ v ∧ v < (t.Vars.length : Int)) → r.1.isSome = true ∧ r.2 = noS) := by
 unfold Yk
 by_cases h : GoodT t ∧ 0 ≤ v ∧ v < (t.Vars.length : Int)
 ·obtain ⟨⟨e, x⟩, hr, h2⟩ := QiI h.1 h.2.1 h.2.2 hn
  rw [hr]
  exact Ok.ret ⟨fun _ => h2, fun h' => absurd h h'⟩
 ·have : Ok (J6 t [v]) fun r => r.1.isSome = true ∧ r.2 = noS := by
   unfold J6
   obtain ⟨e, he, hg⟩ := Qlw (t := t) (v := v) hn
   rw [he]
   simp only [Option.bind_some]
   cases e with
   | none => exact absurd (hg.1 rfl) h
   | some e =>
    simp only [Option.isSome_some, if_true]
    exact Ok.ret ⟨Z, Z⟩
  obtain ⟨⟨e, x⟩, hr, h2⟩ := this
  rw [hr]
  exact Ok.ret ⟨fun h' => absurd h' h, fun _ => h2⟩
end Go.Pw
/- -/
set_option maxHeartbeats 4000000
namespace Go.Pw
/-! ### all states -/
def Qc9 (k : Int) (out : List (List Int)) : List (List Int) := out.flatMap fun s => (List.range k.toNat).map fun (x : Nat) => s ++ [(x : Int)]
def stR : List Int → List (List Int)
 | [] => [[]]
 | k :: r => Qc9 k (stR r)
def Js (vars : List Int) : List (List Int) := stR vars.reverse
theorem Qgo (k : Int) (hk : 0 ≤ k) (out : List (List Int)) : ((Qc9 k out).length : Int) = out.length * k := by
 unfold Qc9
 induction out with
 | nil => simp
 | cons s out ih =>
  simp only [List.flatMap_cons, List.length_append, List.length_map, List.length_range, List.length_cons]
  rw [Int.natCast_add, ih, Int.natCast_add, Int.add_mul]
  omega
theorem QjQ : ∀ {r : List Int}, (∀ x ∈ r, 0 ≤ x) → ((stR r).length : Int) = K5 r
 | [], _ => rfl
 | k :: r, h => by
  unfold stR K5
  rw [Qgo k (h k (by simp)), QjQ fun x hx => h x (by simp [hx]), Int.mul_comm]
theorem StateOK.snoc {vars : List Int} {k : Int} {s : List Int} : StateOK (vars ++ [k]) s ↔ ∃ s' x, s = s' ++ [x] ∧ StateOK vars s' ∧ 0 ≤ x ∧ x < k := by
 constructor
 ·intro h
  have hl := h.len
  simp only [List.length_append, List.length_singleton] at hl
  obtain ⟨x, hx⟩ := QH (xs := s) (i := vars.length) (by omega)
  have hsp : s = s.take vars.length ++ [x] := by
   have := Jg hx
   rw [← this, List.take_of_length_le (by omega)]
  refine ⟨s.take vars.length, x, hsp, ⟨by simp; omega, fun i y d hy hd => ?_⟩, ?_⟩
  ·have hi := (List.getElem?_eq_some_iff.1 hd).1
   refine h.r i y d ?_ (by rw [List.getElem?_append_left hi]; exact hd)
   rw [List.getElem?_take] at hy
   simpa [hi] using hy
  ·exact h.r vars.length x k hx (by simp)
 ·rintro ⟨s', x, rfl, h, h0, h1⟩
  refine ⟨by simp [h.len], fun i y d hy hd => ?_⟩
  by_cases hi : i < vars.length
  ·rw [List.getElem?_append_left (by rw [h.len]; exact hi)] at hy
   rw [List.getElem?_append_left hi] at hd
   exact h.r i y d hy hd
  ·have hlt := (List.getElem?_eq_some_iff.1 hd).1
   simp only [List.length_append, List.length_singleton] at hlt
   obtain rfl : i = vars.length := by omega
   rw [List.getElem?_append_right (by rw [h.len]; exact Nat.le_refl _), h.len, Nat.sub_self] at hy
   rw [List.getElem?_append_right (Nat.le_refl _), Nat.sub_self] at hd
   simp only [List.getElem?_cons_zero, Option.some.injEq] at hy hd
   subst hy hd
   exact ⟨h0, h1⟩
theorem Qh8 : ∀ {r : List Int} {s : List Int}, s ∈ stR r ↔ StateOK r.reverse s
 | [], s => by
  simp only [stR, List.mem_singleton, List.reverse_nil]
  constructor
  ·rintro rfl; exact ⟨rfl, by simp⟩
  ·intro h; exact List.eq_nil_of_length_eq_zero h.len
 | k :: r, s => by
  rw [List.reverse_cons, StateOK.snoc]
  simp only [stR, Qc9, List.mem_flatMap, List.mem_map, List.mem_range]
  constructor
  ·rintro ⟨s', hs', x, hx, rfl⟩
   exact ⟨s', (x : Int), Z, Qh8.1 hs', by omega, by omega⟩
  ·rintro ⟨s', x, rfl, h, h0, h1⟩
   exact ⟨s', Qh8.2 h, x.toNat, by omega, by rw [Int.toNat_of_nonneg h0]⟩
theorem Qbe {vars s : List Int} : s ∈ Js vars ↔ StateOK vars s := by
 unfold Js
 rw [Qh8, List.reverse_reverse]
theorem QiL (l : List Int) : K5 l.reverse = K5 l := Qep (List.reverse_perm l)
theorem Qca {vars : List Int} (h : ∀ x ∈ vars, 0 ≤ x) : ((Js vars).length : Int) = K5 vars := by
 unfold Js
 rw [QjQ (fun x hx => h x (List.mem_reverse.1 hx)), QiL]
theorem Qbi {l : List Int} (h : ∀ x ∈ l, 1 ≤ x) (i : Nat) : K5 (l.take i) ≤ K5 l := by
 have := Qcj (l := l.take i) (k := l.drop i) (fun x hx => h x (List.mem_of_mem_take hx)) (fun x hx => h x (List.mem_of_mem_drop hx))
 rwa [List.take_append_drop] at this
theorem QgY {vars : List Int} (hv : ∀ n ∈ vars, 1 ≤ n ∧ n ≤ 64) (hn : vars.length ≤ 64) (hp : K5 vars ≤ 4096) : QaW vars = some (Js vars) := by
 unfold QaW
 refine QbW (Ok.bind (J5 (fun i out => out = Js (vars.take i)) (by simp [Js, stR]) ?_ ?_))
 ·rintro i out hi rfl
  obtain ⟨k, hk⟩ := QH hi
  have hkr := hv k (List.mem_of_getElem? hk)
  have hlen := Qca (vars := vars.take i) fun x hx => by have := hv x (List.mem_of_mem_take hx); omega
  have hle := Qbi (l := vars) (fun x hx => (hv x hx).1) i
  have hle2 := Qbi (l := vars) (fun x hx => (hv x hx).1) (i + 1)
  have hmul : K5 (vars.take (i + 1)) = K5 (vars.take i) * k := by rw [Jg hk, QbH]; simp [K5]
  have hstep : Js (vars.take (i + 1)) = Qc9 k (Js (vars.take i)) := by
   unfold Js
   rw [Jg hk, List.reverse_append, List.reverse_singleton, List.singleton_append]
   rfl
  have hel := Qgo k (by omega) (Js (vars.take i))
  have hsl : ∀ s ∈ Js (vars.take i), s.length ≤ 64 := fun s hs => by
   have := (Qbe.1 hs).len
   rw [List.length_take] at this
   omega
  rw [hstep]
  generalize Js (vars.take i) = L at *
  simp only [Q6, hk, Option.bind_some]
  rw [Qap L (fun s => (List.range k.toNat).map fun (x : Nat) => s ++ [(x : Int)]) (s0 := [])]
  ·exact Ok.ret (by simp [Qc9])
  ·intro j s u hj hu
   have hs := hsl s (List.mem_of_getElem? hj)
   have hjl := (List.getElem?_eq_some_iff.1 hj).1
   have hul : u.length ≤ 4096 * 64 := by
    rw [hu, List.nil_append]
    refine Nat.le_trans (QbZ (M := 64) fun x _ => by simp; omega) (Nat.mul_le_mul_right _ ?_)
    rw [List.length_take]
    omega
   have hm : must (decide (k ≤ 9223372036854775807)) = some () := by unfold must; rw [if_pos (by simp; omega)]
   simp only [hj, hm, Option.bind_some]
   rw [Qgn k.toNat (fun (x : Nat) => [s ++ [(x : Int)]]) (s0 := u)]
   ·simp [YY]
   ·intro x w hx hw
    have hwl : w.length ≤ 4096 * 64 + 64 := by
     rw [hw, YY]
     simp
     omega
    rw [JM (by simp; omega)]
    simp only [Option.bind_some, List.nil_append]
    rw [JM (by simp; omega)]
    simp only [Option.bind_some]
    rw [JM (by simp; omega)]
    rfl
 ·rintro out rfl
  rw [List.take_length]
  exact Ok.ret Z
/-! ### successors -/
open Classical in
noncomputable def JT (effs : List Effect) (s : List Int) : List Int := effs.foldl (fun c e => if Kt e.When s then c.set e.Var.toNat e.Val else c) s
open Classical in
theorem Qdk (effs : List Effect) (e : Effect) (s : List Int) : JT (effs ++ [e]) s = if Kt e.When s then (JT effs s).set e.Var.toNat e.Val else JT effs s := by simp [JT]
theorem Qc1 {α : Type} {P : List α → Prop} (h0 : P []) (h1 : ∀ l x, P l → P (l ++ [x])) (l : List α) : P l := by
 have : ∀ r : List α, P r.reverse := by
  intro r
  induction r with
  | nil => exact h0
  | cons x r ih => rw [List.reverse_cons]; exact h1 _ _ ih
 have h := this l.reverse
 rwa [List.reverse_reverse] at h
theorem QbA {vars : List Int} {s : List Int} (hs : StateOK vars s) {effs : List Effect} : (∀ e ∈ effs, InR vars ⟨e.Var, e.Val⟩) → StateOK vars (JT effs s) := by
 refine Qc1 (P := fun effs => (∀ e ∈ effs, InR vars ⟨e.Var, e.Val⟩) → StateOK vars (JT effs s)) (fun _ => hs) ?_ effs
 intro l e ih h
 have h1 := ih fun e' he' => h e' (by simp [he'])
 have h2 := h e (by simp)
 rw [Qdk]
 by_cases hc : Kt e.When s
 ·rw [if_pos hc]; exact h1.set h2.2.2.1 h2.2.2.2
 ·rw [if_neg hc]; exact h1
theorem QeS {vars : List Int} {s : List Int} (hs : StateOK vars s) {v : Int} (h0 : 0 ≤ v) (h1 : v < (vars.length : Int)) {effs : List Effect} : (∀ e ∈ effs, InR vars ⟨e.Var, e.Val⟩) → (JT effs s)[v.toNat]? = some (Qbr effs v s) := by
 refine Qc1 (P := fun effs => (∀ e ∈ effs, InR vars ⟨e.Var, e.Val⟩) → (JT effs s)[v.toNat]? = some (Qbr effs v s)) (fun _ => ?_) ?_ effs
 ·obtain ⟨x, hx, _⟩ := hs.at h0 h1
  simp [JT, Qbr, hx]
 ·intro l e ih h
  have i1 := ih fun e' he' => h e' (by simp [he'])
  have h2 := h e (by simp)
  have hok := QbA hs (effs := l) fun e' he' => h e' (by simp [he'])
  have hlen := hok.len
  rw [Qdk, Qc3]
  by_cases hc : Kt e.When s
  ·rw [if_pos hc]
   by_cases hv : e.Var = v
   ·rw [if_pos ⟨hv, hc⟩, hv, List.getElem?_set_self (by omega)]
   ·have := h2.1
    rw [if_neg (fun h => hv h.1), List.getElem?_set_ne (by simp only at this; omega)]
    exact i1
  ·rw [if_neg hc, if_neg (fun h => hc h.2)]
   exact i1
theorem Qmj {t : Task} (ht : GoodT t) {i : Nat} {o : Op} (hi : t.Ops[i]? = some o) {s : List Int} (hs : StateOK t.Vars s) :
  Ok (QcN t s (i : Int)) fun r => (Kt o.Pre s → r = (JT o.Effs s, true)) ∧ (¬ Kt o.Pre s → r = ([], false)) := by
 classical
 have hop := ht.op o (List.mem_of_getElem? hi)
 have hlt := (List.getElem?_eq_some_iff.1 hi).1
 have hnv := ht.nv
 have hsl := hs.len
 unfold QcN
 have a1 : ¬ ((i : Int) < 0) := by omega
 have a2 : ¬ ((t.Ops.length : Int) ≤ (i : Int)) := by omega
 simp only [a1, a2, decide_false, Bool.false_eq_true, if_false, Q6, hi, Option.bind_some, Qhy hop.pre hsl]
 by_cases h : Kt o.Pre s
 ·simp only [h, decide_true, Bool.not_true, Bool.false_eq_true, if_false]
  rw [JM (by simp; omega)]
  simp only [Option.bind_some, List.nil_append]
  refine Ok.bind (J5 (fun j m => m = JT (o.Effs.take j) s) (by simp [JT]) ?_ ?_)
  ·rintro j m hj rfl
   obtain ⟨e, he⟩ := QH hj
   have her := hop.eff e (List.mem_of_getElem? he)
   have hok := QbA hs (effs := o.Effs.take j) fun e' he' => (hop.eff e' (List.mem_of_mem_take he')).2
   have her2 := her.2
   unfold InR at her2
   simp only at her2
   have hlen := hok.len
   obtain ⟨y, hy, _⟩ := hok.at her2.1 her2.2.1
   simp only [Q6, he, Option.bind_some, Qhy her.1 hsl]
   have i1 : Jc (JT (o.Effs.take j) s) e.Var = some y := by unfold Jc; rw [if_pos her2.1, hy]
   have i2 : Kv (JT (o.Effs.take j) s) e.Var e.Val = some ((JT (o.Effs.take j) s).set e.Var.toNat e.Val) := by unfold Kv; rw [if_pos ⟨her2.1, by omega⟩]
   rw [Jg he, Qdk]
   by_cases hc : Kt e.When s
   ·simp only [hc, decide_true, if_true, i1, i2, Option.bind_some]
    exact Ok.ret Z
   ·simp only [hc, decide_false, Bool.false_eq_true, if_false, Option.bind_some]
    exact Ok.ret Z
  ·rintro m rfl
   rw [List.take_length]
   exact Ok.ret ⟨fun _ => rfl, fun h' => absurd trivial h'⟩
 ·simp only [h, decide_false, Bool.not_false, if_true]
  exact Ok.ret ⟨fun h' => h'.elim, fun _ => rfl⟩
/-! ### small tasks -/
theorem QfT {vars : List Int} (hv : ∀ n ∈ vars, 1 ≤ n ∧ n ≤ 64) {most : Int} (h0 : 64 ≤ most) (h1 : most ≤ 100000) : Ok (YC vars most) fun m => (K5 vars ≤ most ∧ m = K5 vars) ∨ (most < K5 vars ∧ m = most + 1) := by
 unfold YC
 rw [Jo (n := most + 1) (by omega) (by omega)]
 refine Ok.ctl (fun i n => n = K5 (vars.take i) ∧ n ≤ most) (fun r => most < K5 vars ∧ r = most + 1) ⟨by simp [K5], by omega⟩ ?_ ?_ ?_
 ·rintro i n hi ⟨h2, h3⟩
  obtain ⟨k, hk⟩ := QH hi
  have hkr := hv k (List.mem_of_getElem? hk)
  have hpos := Qb4 (l := vars.take i) fun x hx => (hv x (List.mem_of_mem_take hx)).1
  rw [← h2] at hpos
  have hmul : K5 (vars.take (i + 1)) = n * k := by rw [Jg hk, QbH, ← h2]; simp [K5]
  have hmm : min (max k 0) (most + 1) = k := by omega
  have b1 : n * k ≤ 100000 * 64 := Int.mul_le_mul (by omega) hkr.2 (by omega) (by omega)
  have b0 : 0 ≤ n * k := Int.mul_nonneg (by omega) (by omega)
  simp only [Q6, hk, Option.bind_some, hmm, Jo (n := n * k) (by omega) (by omega)]
  by_cases h4 : most < n * k
  ·simp only [h4, decide_true, if_true]
   have := Qbi (l := vars) (fun x hx => (hv x hx).1) (i + 1)
   exact Ok.ret ⟨by omega, Z⟩
  ·simp only [h4, decide_false, Bool.false_eq_true, if_false]
   exact Ok.ret ⟨hmul.symm, by omega⟩
 ·rintro r h
  exact Ok.ret (.inr h)
 ·rintro n ⟨h2, h3⟩
  rw [List.take_length] at h2
  exact Ok.ret (.inl ⟨by omega, h2⟩)
structure SmallT (t : Task) : Prop where
 g : GoodT t
 nv : t.Vars.length ≤ 12
 no : t.Ops.length ≤ 20
 ne : ∀ o ∈ t.Ops, o.Effs.length ≤ 8
 p : K5 t.Vars ≤ 512
open Classical in
theorem Ql6 (t : Task) : Qa2 t = some (decide (SmallT t)) := by
 refine QbW ?_
 unfold Qa2
 by_cases h1 : 12 < (t.Vars.length : Int)
 ·simp only [h1, decide_true, Bool.true_or, if_true]
  exact Ok.ret (by rw [eq_comm, decide_eq_false_iff_not]; intro h; have := h.nv; omega)
 by_cases h2 : 20 < (t.Ops.length : Int)
 ·simp only [h1, h2, decide_true, Bool.or_true, if_true]
  exact Ok.ret (by rw [eq_comm, decide_eq_false_iff_not]; intro h; have := h.no; omega)
 simp only [h1, h2, decide_false, Bool.or_self, Bool.false_eq_true, if_false]
 rw [KX (r := false) (fun o => o.Effs.length ≤ 8)]
 ·by_cases h3 : ∀ o ∈ t.Ops, o.Effs.length ≤ 8
  ·rw [if_pos h3, QmY]
   by_cases h4 : GoodT t
   ·obtain ⟨m, hm, hm2⟩ := QfT h4.v (most := 512) (by omega) (by omega)
    simp only [h4, decide_true, if_true, Option.bind_some, hm]
    refine Ok.ret ?_
    rcases hm2 with ⟨h5, rfl⟩ | ⟨h5, rfl⟩
    ·rw [decide_eq_true h5, eq_comm, decide_eq_true_iff]
     exact ⟨h4, by omega, by omega, h3, h5⟩
    ·rw [decide_eq_false (by omega), eq_comm, decide_eq_false_iff_not]
     intro h; have := h.p; omega
   ·simp only [h4, decide_false, Bool.false_eq_true, if_false, Option.bind_some]
    exact Ok.ret (by rw [eq_comm, decide_eq_false_iff_not]; exact fun h => h4 h.g)
  ·rw [if_neg h3]
   exact Ok.ret (by rw [eq_comm, decide_eq_false_iff_not]; exact fun h => h3 h.ne)
 ·intro i o ho
  simp only [Q6, ho, Option.bind_some]
  by_cases h : 8 < (o.Effs.length : Int)
  ·have : ¬ o.Effs.length ≤ 8 := by omega
   simp [h, this]
  ·have : o.Effs.length ≤ 8 := by omega
   simp [h, this]
theorem Qej {vars : List Int} (hv : ∀ n ∈ vars, 1 ≤ n ∧ n ≤ 64) {l : List Int} (hn : l.Nodup) (hl : ∀ w ∈ l, 0 ≤ w ∧ w < (vars.length : Int)) : K5 (l.map (Kq vars)) ≤ K5 vars := by
 have hM : ((List.range vars.length).map fun (i : Nat) => (i : Int)).Nodup := by
  refine List.pairwise_map.2 (List.Pairwise.imp ?_ List.nodup_range)
  intro a b h e
  omega
 obtain ⟨M', hp, _, hm⟩ := Qir l ((List.range vars.length).map fun (i : Nat) => (i : Int)) hn hM (fun c hc => by
  have := hl c hc
  exact List.mem_map.2 ⟨c.toNat, by simp; omega, by omega⟩)
 have hvars : ((List.range vars.length).map fun (i : Nat) => (i : Int)).map (Kq vars) = vars := by
  apply List.ext_getElem?
  intro i
  by_cases hi : i < vars.length
  ·rw [Qf5 hi]; simp [hi]
  ·rw [List.getElem?_eq_none (by simp; omega), List.getElem?_eq_none (by omega)]
 have h1 := Qep (hp.map (Kq vars))
 rw [hvars, List.map_append] at h1
 rw [h1]
 have hpos : ∀ w : Int, 0 ≤ w ∧ w < (vars.length : Int) → 1 ≤ Kq vars w := by
  intro w hw
  obtain ⟨d, hd⟩ := QH (xs := vars) (i := w.toNat) (by omega)
  have := hv d (List.mem_of_getElem? hd)
  unfold Kq
  rw [hd]
  exact this.1
 refine Qcj ?_ ?_
 ·intro x hx
  obtain ⟨w, hw, rfl⟩ := List.mem_map.1 hx
  exact hpos w (hl w hw)
 ·intro x hx
  obtain ⟨w, hw, rfl⟩ := List.mem_map.1 hx
  obtain ⟨i, hi, rfl⟩ := List.mem_map.1 ((hm w).1 hw).1
  exact hpos _ ⟨by omega, by have := List.mem_range.1 hi; omega⟩
theorem QkB {t : Task} (ht : GoodT t) {v : Int} (h0 : 0 ≤ v) (h1 : v < (t.Vars.length : Int)) {o : Op} (ho : o ∈ t.Ops) {fr : List Int} (hf : fr.Nodup) (hm : ∀ w, w ∈ fr ↔ Qkk o v w) : Kq t.Vars v * K5 (fr.map (Kq t.Vars)) ≤ K5 t.Vars := by
 have := Qej ht.v (l := v :: fr) (List.nodup_cons.2 ⟨fun h => ((hm v).1 h).1 rfl, hf⟩) (by
  intro w hw
  rcases List.mem_cons.1 hw with rfl | hw
  ·exact ⟨h0, h1⟩
  ·obtain ⟨_, _, e, he, _, f, hf, rfl⟩ := (hm w).1 hw
   have := ((ht.op o ho).eff e he).1.r f hf
   exact ⟨this.1, this.2.1⟩)
 simpa [K5] using this
theorem SmallT.room {t : Task} (h : SmallT t) {v : Int} (h0 : 0 ≤ v) (h1 : v < (t.Vars.length : Int)) : Qjc t v := by
 have hd := KH h.g.v h0 h1
 have hp := h.p
 have hpp := Qb4 fun x hx => (h.g.v x hx).1
 have hno := h.no
 have hq0 : 0 ≤ K5 t.Vars / Kq t.Vars v := Int.ediv_nonneg (by omega) (by omega)
 have hq1 : K5 t.Vars / Kq t.Vars v ≤ K5 t.Vars := Int.ediv_le_self _ (by omega)
 have hq2 : Kq t.Vars v * (K5 t.Vars / Kq t.Vars v) ≤ K5 t.Vars := Int.mul_ediv_self_le (by omega)
 refine ⟨(K5 t.Vars / Kq t.Vars v).toNat, fun o ho fr hf hm => ?_, by omega, ?_⟩
 ·have h2 := QkB h.g h0 h1 ho hf hm
  rw [Int.toNat_of_nonneg hq0]
  rw [Int.mul_comm] at h2
  exact (Int.le_ediv_iff_mul_le (by omega)).2 h2
 ·have h3 : (((Kq t.Vars v).toNat * (K5 t.Vars / Kq t.Vars v).toNat : Nat) : Int) ≤ 512 := by
   rw [Int.natCast_mul, Int.toNat_of_nonneg hq0, Int.toNat_of_nonneg (by omega)]
   omega
  have h4 : (Kq t.Vars v).toNat * (K5 t.Vars / Kq t.Vars v).toNat ≤ 512 := by omega
  have h5 : (Kq t.Vars v).toNat * (K5 t.Vars / Kq t.Vars v).toNat * t.Ops.length ≤ 512 * 20 := Nat.mul_le_mul h4 hno
  rw [Nat.mul_right_comm]
  omega
end Go.Pw
/- -/
set_option maxHeartbeats 4000000
namespace Go.Pw
theorem Qd3 {α β : Type} {f : α → List β} {m : Nat} : ∀ {xs : List α}, (∀ x ∈ xs, (f x).length = m) → ∀ {r y : Nat} {x : α} {z : β}, xs[r]? = some x → (f x)[y]? = some z → (xs.flatMap f)[r * m + y]? = some z
 | [], _, r, _, _, _, hx, _ => by simp at hx
 | a :: xs, h, 0, y, x, z, hx, hz => by
  simp only [List.getElem?_cons_zero, Option.some.injEq] at hx
  subst hx
  have hlt := (List.getElem?_eq_some_iff.1 hz).1
  rw [List.flatMap_cons, Nat.zero_mul, Nat.zero_add, List.getElem?_append_left hlt]
  exact hz
 | a :: xs, h, r + 1, y, x, z, hx, hz => by
  have ha := h a (by simp)
  rw [List.flatMap_cons, List.getElem?_append_right (by rw [ha, Nat.succ_mul]; omega), ha, show (r + 1) * m + y - m = r * m + y by rw [Nat.succ_mul]; omega]
  exact Qd3 (fun x hx => h x (by simp [hx])) (by simpa using hx) hz
theorem Qhk {α β : Type} {f : α → List β} {m : Nat} : ∀ {xs : List α}, (∀ x ∈ xs, (f x).length = m) → (xs.flatMap f).length = xs.length * m
 | [], _ => by simp
 | a :: xs, h => by rw [List.flatMap_cons, List.length_append, h a (by simp), Qhk fun x hx => h x (by simp [hx]), List.length_cons, Nat.succ_mul, Nat.add_comm]
def rkZ (l : List (Int × Int)) : Int := l.foldl (fun n p => n * p.1 + p.2) 0
def rk (vars s : List Int) : Int := rkZ (vars.zip s)
theorem Qjh : rk [] [] = 0 := rfl
theorem QhB {vars s : List Int} (h : s.length = vars.length) (k x : Int) : rk (vars ++ [k]) (s ++ [x]) = rk vars s * k + x := by
 unfold rk rkZ
 rw [List.zip_append (by omega)]
 simp
theorem StateOK.nil : StateOK [] [] := ⟨rfl, by simp⟩
theorem StateOK.eq_nil {s : List Int} (h : StateOK [] s) : s = [] := List.eq_nil_of_length_eq_zero h.len
theorem Qey (vars : List Int) (k : Int) : Js (vars ++ [k]) = Qc9 k (Js vars) := by
 unfold Js
 rw [List.reverse_append, List.reverse_singleton, List.singleton_append]
 rfl
theorem Qh1 {vars : List Int} : (∀ n ∈ vars, 1 ≤ n) → ∀ {s : List Int}, StateOK vars s → 0 ≤ rk vars s ∧ (Js vars)[(rk vars s).toNat]? = some s := by
 refine Qc1 (P := fun vars => (∀ n ∈ vars, 1 ≤ n) → ∀ {s : List Int}, StateOK vars s → 0 ≤ rk vars s ∧ (Js vars)[(rk vars s).toNat]? = some s) ?_ ?_ vars
 ·intro _ s hs
  rw [hs.eq_nil]
  exact ⟨by simp [Qjh], by simp [Qjh, Js, stR]⟩
 ·intro vars k ih h s hs
  obtain ⟨s', x, rfl, hs', h0, h1⟩ := StateOK.snoc.1 hs
  obtain ⟨i0, i1⟩ := ih (fun n hn => h n (by simp [hn])) hs'
  have hk := h k (by simp)
  have hp : 0 ≤ rk vars s' * k := Int.mul_nonneg i0 (by omega)
  rw [QhB hs'.len]
  refine ⟨by omega, ?_⟩
  rw [Qey]
  have := Qd3 (f := fun s => (List.range k.toNat).map fun (x : Nat) => s ++ [(x : Int)]) (m := k.toNat) (xs := Js vars) (by simp) i1 (y := x.toNat) (z := s' ++ [x]) (by
   rw [List.getElem?_map, List.getElem?_range (by omega)]
   simp [Int.toNat_of_nonneg h0])
  have e : (rk vars s' * k + x).toNat = (rk vars s').toNat * k.toNat + x.toNat := by
   apply Int.ofNat.inj
   show (((rk vars s' * k + x).toNat : Nat) : Int) = (((rk vars s').toNat * k.toNat + x.toNat : Nat) : Int)
   rw [Int.natCast_add, Int.natCast_mul, Int.toNat_of_nonneg i0, Int.toNat_of_nonneg (by omega : 0 ≤ k), Int.toNat_of_nonneg h0, Int.toNat_of_nonneg (by omega)]
  rw [e]
  exact this
theorem Qeg {vars : List Int} (hv : ∀ n ∈ vars, 1 ≤ n) {s : List Int} (h : StateOK vars s) : 0 ≤ rk vars s ∧ rk vars s < K5 vars := by
 obtain ⟨h0, h1⟩ := Qh1 hv h
 have := (List.getElem?_eq_some_iff.1 h1).1
 have hl := Qca (vars := vars) fun x hx => by have := hv x hx; omega
 omega
theorem Qh0 {vars : List Int} (hv : ∀ n ∈ vars, 1 ≤ n) {s s' : List Int} (h : StateOK vars s) (h' : StateOK vars s') (e : rk vars s = rk vars s') : s = s' := by
 have h1 := (Qh1 hv h).2
 have h2 := (Qh1 hv h').2
 rw [e, h2] at h1
 exact (Zu h1).symm
theorem Qna {vars : List Int} : (∀ n ∈ vars, 1 ≤ n) → ∀ {i : Nat} {s : List Int}, (Js vars)[i]? = some s → rk vars s = (i : Int) := by
 refine Qc1 (P := fun vars => (∀ n ∈ vars, 1 ≤ n) → ∀ {i : Nat} {s : List Int}, (Js vars)[i]? = some s → rk vars s = (i : Int)) ?_ ?_ vars
 ·intro _ i s hs
  cases i with
  | zero =>
   simp only [Js, List.reverse_nil, stR, List.getElem?_cons_zero, Option.some.injEq] at hs
   subst hs
   rfl
  | succ i => simp [Js, stR] at hs
 ·intro vars k ih h i s hs
  have hk := h k (by simp)
  rw [Qey] at hs
  have hlt := (List.getElem?_eq_some_iff.1 hs).1
  have hlen : (Qc9 k (Js vars)).length = (Js vars).length * k.toNat := Qhk (by simp)
  have hkp : 0 < k.toNat := by omega
  have hq : i / k.toNat < (Js vars).length := by
   rw [hlen] at hlt
   exact (Nat.div_lt_iff_lt_mul hkp).2 hlt
  obtain ⟨s', hs'⟩ := QH hq
  have hm := Nat.mod_lt i hkp
  have := Qd3 (f := fun s => (List.range k.toNat).map fun (x : Nat) => s ++ [(x : Int)]) (m := k.toNat) (xs := Js vars) (by simp) hs' (y := i % k.toNat) (z := s' ++ [((i % k.toNat : Nat) : Int)]) (by
   rw [List.getElem?_map, List.getElem?_range hm]
   simp)
  rw [Nat.div_add_mod'] at this
  rw [show ((Js vars).flatMap fun s => (List.range k.toNat).map fun (x : Nat) => s ++ [(x : Int)]) = Qc9 k (Js vars) from rfl, hs] at this
  have e := Zu this
  subst e
  have hr := ih (fun n hn => h n (by simp [hn])) hs'
  have hsl := (Qbe.1 (List.mem_of_getElem? hs')).len
  rw [QhB hsl, hr]
  have hmod := Nat.div_add_mod' i k.toNat
  have hkk : ((k.toNat : Nat) : Int) = k := Int.toNat_of_nonneg (by omega)
  have hz : ((i / k.toNat : Nat) : Int) * k + ((i % k.toNat : Nat) : Int) = ((i / k.toNat * k.toNat + i % k.toNat : Nat) : Int) := by rw [Int.natCast_add, Int.natCast_mul, hkk]
  rw [hz, hmod]
theorem StateOK.take {vars s : List Int} (h : StateOK vars s) (m : Nat) : StateOK (vars.take m) (s.take m) := by
 refine ⟨by simp [h.len], fun i x d hx hd => ?_⟩
 rw [List.getElem?_take] at hx hd
 by_cases hi : i < m
 ·rw [if_pos hi] at hx hd
  exact h.r i x d hx hd
 ·rw [if_neg hi] at hx; cases hx
end Go.Pw
/- -/
set_option maxHeartbeats 4000000
namespace Go.Pw
open Classical in
theorem QmF {α β : Type} (t : α → α → Bool) (ht : ∀ x y, t x y = true ↔ x ≠ y) (xs ys : List α) (hl : xs.length = ys.length) {kr : Bool → Option β} {k : Unit → Option β} :
  ctl (JS (R := Bool) (fun i => fun (_ : Unit) => (Jc xs (i : Int)).bind fun x => (Jc ys (i : Int)).bind fun y => if t x y then some (Ctl.ret false) else some (Ctl.next ())) xs.length 0 ()) kr k = if xs = ys then k () else kr false := by
 rw [QcD (p := fun i => decide (xs[i]? = ys[i]?)) (r := false)]
 ·by_cases h : xs = ys
  ·subst h; simp
  ·rw [if_neg h, if_neg]
   intro hall
   apply h
   apply List.ext_getElem?
   intro i
   by_cases hi : i < xs.length
   ·have := List.all_eq_true.1 hall i (by simpa using hi)
    simpa using this
   ·rw [List.getElem?_eq_none (by omega), List.getElem?_eq_none (by omega)]
 ·intro i hi
  obtain ⟨x, hx⟩ := QH hi
  obtain ⟨y, hy⟩ := QH (show i < ys.length by omega)
  simp only [Q6, hx, hy, Option.bind_some, Option.some.injEq]
  by_cases e : x = y
  ·have : t x y = false := by
    cases ht' : t x y with
    | false => rfl
    | true => exact absurd e ((ht x y).1 ht')
   subst e
   simp [this]
  ·simp [(ht x y).2 e, e]
theorem QmU (xs ys : List Int) : Jv xs ys = some (decide (xs = ys)) := by
 unfold Jv
 by_cases h : xs.length = ys.length
 ·rw [if_neg (by simp [h]), QmF (fun x y => !decide (x = y)) (by simp) xs ys h]
  by_cases e : xs = ys <;> simp [e]
 ·rw [if_pos (by simp; omega)]
  have : xs ≠ ys := fun e => h (by rw [e])
  simp [this]
end Go.Pw
/- -/
set_option maxHeartbeats 4000000
namespace Go.Pw
theorem QfP (a b : System) (l : Nat) : (Qg9 a b l).length = (JH a l).length * (JH b l).length := by
 unfold Qg9
 induction JH a l with
 | nil => simp
 | cons d r ih => rw [List.flatMap_cons, List.length_append, ih, List.length_map, List.length_cons, Nat.succ_mul, Nat.add_comm]
theorem QiK {a b : System} (ha : VSys a) (hb : VSys b) (hc : a.Costs = b.Costs) (hs : a.States * b.States ≤ 4096) {C : Nat} (hC : ∀ l, l < a.Costs.length → (JH a l).length * (JH b l).length ≤ C) (hm : C * a.Costs.length ≤ 65536) :
  Ok (Ya a b) fun r => r.1 = none ∧ ProdRes a b r.2 ∧ r.2.Edges.length ≤ C * a.Costs.length := by
 have hC1 : ∀ l, l < a.Costs.length → C ≤ 65536 := fun l hl => Nat.le_trans (Nat.le_mul_of_pos_right C (by omega)) hm
 unfold Ya
 have va := Qcs.2 ha
 have vb := Qcs.2 hb
 simp only [tV, va, vb, QmU, hc, Option.bind_some, Bool.not_true, Bool.false_eq_true, if_false, decide_true]
 have s1 := ha.s1; have s2 := ha.s2; have s3 := hb.s1; have s4 := hb.s2; have i0 := ha.i0; have i1 := ha.i1; have j0 := hb.i0; have j1 := hb.i1
 have g1 := ha.g; have g2 := hb.g; have c1 := ha.c; have c2 := hb.c; have e1 := ha.e; have e2 := hb.e
 have m1 := Qh2 (x := a.States) (n := b.States) (by omega) (by omega) (by omega) (by omega)
 have m2 := Qh2 (x := a.Init) (n := b.States) (by omega) (by omega) (by omega) (by omega)
 have w1 : IntKind.i64.wrap (a.States * b.States) = a.States * b.States := Jo (by omega) (by omega)
 have w2 : IntKind.i64.wrap (a.Init * b.States) = a.Init * b.States := Jo (by omega) (by omega)
 have w3 : IntKind.i64.wrap (a.Init * b.States + b.Init) = a.Init * b.States + b.Init := Jo (by omega) (by omega)
 rw [w1, w2, w3]
 have hng : ¬ 4096 < a.States * b.States := by omega
 simp only [hng, decide_false, Bool.false_eq_true, if_false]
 have hclone : QA b.Costs = some b.Costs := by
  unfold QA
  rw [JM (by simp; omega)]
  simp
 rw [hclone]
 simp only [Option.bind_some]
 refine Ok.must (by simp; omega) ?_
 have hga : a.States.toNat = a.Goals.length := by omega
 have hgb : b.States.toNat = b.Goals.length := by omega
 have hmust : must (decide (b.States ≤ 9223372036854775807)) = some () := by unfold must; rw [if_pos (by simp; omega)]
 simp only [hmust, Option.bind_some, hga, hgb]
 rw [Qj3 a b (by omega) (by omega) _ (fun _ _ => rfl)]
 simp only [Option.bind_some]
 obtain ⟨L, hL, hL1, hL2⟩ := QdJ a ha
 obtain ⟨M, hM, hM1, hM2⟩ := QdJ b hb
 rw [hL, hM]
 simp only [Option.bind_some, hL1]
 refine Ok.bind (J5 (fun i many => 0 ≤ many ∧ many ≤ ((C * i : Nat) : Int)) ?_ ?_ ?_)
 ·constructor
  ·exact Int.le_refl _
  ·exact Int.natCast_nonneg _
 ·rintro i many hi ⟨h1, h2⟩
  rw [Q6, hL2 i hi, Q6, hM2 i (by rw [← hc]; exact hi)]
  simp only [Option.bind_some]
  have hprod := hC i hi
  have hc1 := hC1 i hi
  have htot : C * (i + 1) ≤ C * a.Costs.length := Nat.mul_le_mul_left _ hi
  have hsum : C * (i + 1) = C * i + C := Nat.mul_succ _ _
  have hcast : ((JH a i).length : Int) * ((JH b i).length : Int) = (((JH a i).length * (JH b i).length : Nat) : Int) := by simp
  rw [hcast, Jo (n := (((JH a i).length * (JH b i).length : Nat) : Int)) (by omega) (by omega), Jo (by omega) (by omega)]
  refine Ok.ret ⟨by omega, by omega⟩
 ·rintro many ⟨h1, h2⟩
  have hno : ¬ 65536 < many := by omega
  simp only [hno, decide_false, Bool.false_eq_true, if_false]
  have hloop : forS (fun i11301 => fun (z12151 : List Edge) => (Jc L (i11301 : Int)).bind fun x13032 =>
    (forS (fun i13040 => fun (l13297 : List Edge) => (Jc x13032 (i13040 : Int)).bind fun x13598 =>
    (Jc M (i11301 : Int)).bind fun x13618 =>
    (forS (fun i13626 => fun (l13676 : List Edge) => (Jc x13618 (i13626 : Int)).bind fun x13775 =>
    (app 24 l13676 [(⟨IntKind.i64.wrap ((IntKind.i64.wrap (x13598.From * b.States)) + x13775.From), (i11301 : Int), IntKind.i64.wrap ((IntKind.i64.wrap (x13598.To * b.States)) + x13775.To)⟩ : Edge)]).bind fun l13802 =>
    some l13802) (x13618.length) 0 l13297).bind (fun (l13676 : List Edge) => some l13676)) (x13032.length) 0 z12151).bind (fun (l13297 : List Edge) => some l13297)) a.Costs.length 0 [] = some (QgB a b) := by
   have := Qgn a.Costs.length (Qg9 a b) (s0 := []) (B := fun i11301 => fun (z12151 : List Edge) => (Jc L (i11301 : Int)).bind fun x13032 =>
    (forS (fun i13040 => fun (l13297 : List Edge) => (Jc x13032 (i13040 : Int)).bind fun x13598 =>
    (Jc M (i11301 : Int)).bind fun x13618 =>
    (forS (fun i13626 => fun (l13676 : List Edge) => (Jc x13618 (i13626 : Int)).bind fun x13775 =>
    (app 24 l13676 [(⟨IntKind.i64.wrap ((IntKind.i64.wrap (x13598.From * b.States)) + x13775.From), (i11301 : Int), IntKind.i64.wrap ((IntKind.i64.wrap (x13598.To * b.States)) + x13775.To)⟩ : Edge)]).bind fun l13802 =>
    some l13802) (x13618.length) 0 l13297).bind (fun (l13676 : List Edge) => some l13676)) (x13032.length) 0 z12151).bind (fun (l13297 : List Edge) => some l13297)) ?_
   ·simpa [QgB] using this
   ·intro l s hl hsl
    have hsl' : s.length ≤ 4096 * 65536 := by
     rw [hsl, List.nil_append]
     have hfl := QbZ (xs := List.range l) (g := Qg9 a b) (M := C) fun k hk => by rw [QfP]; exact hC k (by have := List.mem_range.1 hk; omega)
     have hb2 : (List.range l).length * C ≤ 4096 * 65536 := Nat.mul_le_mul (by simp; omega) (hC1 l hl)
     omega
    have hCl := hC l hl
    have hC1l := hC1 l hl
    simp only [Q6, hL2 l hl, hM2 l (by rw [← hc]; exact hl), Option.bind_some]
    rw [Qap (JH a l) (fun d => (JH b l).map fun f => mkE b.States (l : Int) d f) (s0 := s)]
    ·rfl
    ·intro i d t hd ht
     have hdm := KM.1 (List.mem_of_getElem? hd)
     have htl : t.length ≤ 4096 * 65536 + 65536 := by
      rw [ht, List.length_append]
      have : (((JH a l).take i).flatMap fun d => (JH b l).map fun f => mkE b.States (l : Int) d f).length ≤ (JH a l).length * (JH b l).length := by
       refine Nat.le_trans (QbZ (M := (JH b l).length) fun d _ => by rw [List.length_map]; exact Nat.le_refl _) (Nat.mul_le_mul_right _ ?_)
       simp; omega
      omega
     simp only [hd, Option.bind_some]
     rw [Qap (JH b l) (fun f => [mkE b.States (l : Int) d f]) (s0 := t)]
     ·simp [YY]
     ·intro j f u hf hu
      have hfm := KM.1 (List.mem_of_getElem? hf)
      have hul : u.length ≤ 4096 * 65536 + 65536 + 65536 := by
       rw [hu, List.length_append, YY, List.length_map, List.length_take]
       have := Qkv b l
       omega
      simp only [hf, Option.bind_some]
      rw [QlH ha hb hdm.1 hfm.1, JM (by simp; omega)]
      rfl
  rw [hloop]
  simp only [Option.bind_some]
  have hall : (QgB a b).length ≤ C * a.Costs.length := by
   have := QbZ (xs := List.range a.Costs.length) (g := Qg9 a b) (M := C) fun k hk => by rw [QfP]; exact hC k (List.mem_range.1 hk)
   rw [List.length_range, Nat.mul_comm] at this
   exact this
  obtain ⟨k, hk1, hk2, hk3⟩ := Qks (Qgi ha hb) (by omega)
  rw [show QcG (QgB a b) = KJ (QgB a b) from rfl, hk1]
  simp only [Option.bind_some]
  refine Ok.ret ⟨Z, ⟨Z, Z, hc.symm, Z, hk2, fun e => (hk3 e).trans (QlK ha e)⟩, ?_⟩
  have hperm : k.Perm (QgB a b) := (List.perm_ext_iff_of_nodup hk2.nodup (Qgi ha hb)).2 hk3
  show k.length ≤ _
  rw [hperm.length_eq]
  have hall' := hall
  rw [hc] at hall'
  exact hall'
theorem Qhl {α β : Type} {f : α → List β} {m : Nat} (hf : ∀ g, (f g).length = m) : ∀ gs : List α, (gs.flatMap f).length = gs.length * m
 | [] => by simp
 | g :: gs => by rw [List.flatMap_cons, List.length_append, hf, Qhl hf gs, List.length_cons, Nat.add_mul, Nat.one_mul, Nat.add_comm]
theorem ProdRes.v {a b x : System} (h : ProdRes a b x) (ha : VSys a) (hb : VSys b) (hc : a.Costs = b.Costs) (hs : a.States * b.States ≤ 4096) (hl : x.Edges.length ≤ 65536) : VSys x := by
 have s1 := ha.s1; have s2 := hb.s1; have i0 := ha.i0; have i1 := ha.i1; have j0 := hb.i0; have j1 := hb.i1
 have g1 := ha.g; have g2 := hb.g
 have hlin : ∀ u v : Int, 0 ≤ u → u < a.States → 0 ≤ v → v < b.States → 0 ≤ u * b.States + v ∧ u * b.States + v < a.States * b.States := by
  intro u v h1 h2 h3 h4
  have e1 : 0 ≤ u * b.States := Int.mul_nonneg h1 (by omega)
  have e2 : (u + 1) * b.States ≤ a.States * b.States := Int.mul_le_mul_of_nonneg_right (by omega) (by omega)
  rw [Int.add_mul, Int.one_mul] at e2
  omega
 have hpos : 1 ≤ a.States * b.States := by
  have := hlin 0 0 (Int.le_refl _) (by omega) (Int.le_refl _) (by omega)
  omega
 have hi := hlin a.Init b.Init i0 i1 j0 j1
 refine ⟨by rw [h.s]; exact hpos, by rw [h.s]; exact hs, by rw [h.i]; exact hi.1, by rw [h.i, h.s]; exact hi.2, ?_, by rw [h.c]; exact ha.c, hl, by rw [h.c]; exact ha.cost, ?_, ?_⟩
 ·rw [h.g, h.s, ← g1, ← g2]
  unfold QfJ
  rw [Qhl (m := b.Goals.length) fun g => by simp]
  simp
 ·intro d hd
  obtain ⟨e, he, f, hf, hef, rfl⟩ := (h.e d).1 hd
  obtain ⟨a1, a2, a3, a4, a5, a6⟩ := ha.edge e he
  obtain ⟨b1, b2, b3, b4, b5, b6⟩ := hb.edge f hf
  have k1 := hlin e.From f.From a1 a2 b1 b2
  have k2 := hlin e.To f.To a3 a4 b3 b4
  rw [h.s, h.c]
  exact ⟨k1.1, k1.2, k2.1, k2.2, a5, a6⟩
 ·intro i d e hd he
  have hp := List.pairwise_iff_getElem.1 h.o
  obtain ⟨h1, rfl⟩ := List.getElem?_eq_some_iff.1 hd
  obtain ⟨h2, rfl⟩ := List.getElem?_eq_some_iff.1 he
  exact hp i (i + 1) h1 h2 (by omega)
end Go.Pw
/- -/
set_option maxHeartbeats 4000000
namespace Go.Pw
theorem QaU {α : Type} : ∀ {C M : List α}, C.Nodup → (∀ x ∈ C, x ∈ M) → C.length ≤ M.length
 | [], _, _, _ => by simp
 | c :: C, M, hn, h => by
  classical
  obtain ⟨h1, h2⟩ := List.nodup_cons.1 hn
  have hm := h c (by simp)
  have := QaU (C := C) (M := M.erase c) h2 fun x hx => (List.mem_erase_of_ne (fun e => h1 (by rw [← e]; exact hx))).2 (h x (by simp [hx]))
  rw [List.length_erase_of_mem hm] at this
  have := List.length_pos_of_mem hm
  simp only [List.length_cons]
  omega
def Qie (o : Op) (v : Int) : Nat := (o.Effs.filter fun e => decide (e.Var = v)).length
theorem Qj6 (v : Int) (s : List Int) (effs : List Effect) : Qbr effs v s = s[v.toNat]?.getD 0 ∨ ∃ e ∈ effs, e.Var = v ∧ e.Val = Qbr effs v s := by
 refine Qc1 (P := fun effs => Qbr effs v s = s[v.toNat]?.getD 0 ∨ ∃ e ∈ effs, e.Var = v ∧ e.Val = Qbr effs v s) (.inl Z) ?_ effs
 intro l e ih
 rw [Qc3]
 by_cases hc : e.Var = v ∧ Kt e.When s
 ·rw [if_pos hc]
  exact .inr ⟨e, by simp, hc.1, Z⟩
 ·rw [if_neg hc]
  rcases ih with h | ⟨e', he', h⟩
  ·exact .inl h
  ·exact .inr ⟨e', by simp [he'], h⟩
theorem QkN {t : Task} {v : Int} {x : System} (ht : GoodT t) (h0 : 0 ≤ v) (h1 : v < (t.Vars.length : Int)) (hx : AtomRes t v x) {l : Nat} {o : Op} (ho : t.Ops[l]? = some o) :
  (JH x l).length ≤ (Kq t.Vars v).toNat + Qie o v * ((Kq t.Vars v).toNat - 1) := by
 have hop := ht.op o (List.mem_of_getElem? ho)
 have hd := KH ht.v h0 h1
 have hnd : (JH x l).Nodup := List.Pairwise.filter _ (Srt.nodup hx.srt)
 have hsub : ∀ d ∈ JH x l, d ∈ ((List.range (Kq t.Vars v).toNat).map fun (a : Nat) => (⟨(a : Int), (l : Int), (a : Int)⟩ : Edge)) ++
   (o.Effs.filter fun e => decide (e.Var = v)).flatMap fun e => ((List.range (Kq t.Vars v).toNat).filter fun (a : Nat) => !decide ((a : Int) = e.Val)).map fun (a : Nat) => (⟨(a : Int), (l : Int), e.Val⟩ : Edge) := by
  intro d hd'
  obtain ⟨hd1, hd2⟩ := KM.1 hd'
  obtain ⟨i, o', ho', hl, σ, s1, s2, s3, s4⟩ := (hx.mem d).1 hd1
  obtain rfl : i = l := by omega
  rw [ho] at ho'; cases ho'
  obtain ⟨y, hy, hy0, hy1⟩ := s1.at h0 h1
  rw [hy] at s2
  have s2 := Zu s2
  obtain ⟨f, lb, g⟩ := d
  simp only at s2 s4 hl
  subst s2 hl
  rw [List.mem_append]
  by_cases e : g = y
  ·left
   rw [List.mem_map]
   exact ⟨y.toNat, by simp; omega, by rw [Int.toNat_of_nonneg hy0, e]⟩
  ·right
   rcases Qj6 v σ o.Effs with h | ⟨e', he', hv', hval⟩
   ·rw [hy] at h
    exact absurd (s4.trans h) e
   ·rw [List.mem_flatMap]
    refine ⟨e', by simp [he', hv'], ?_⟩
    rw [List.mem_map]
    refine ⟨y.toNat, ?_, ?_⟩
    ·simp only [List.mem_filter, List.mem_range, Bool.not_eq_true', decide_eq_false_iff_not]
     exact ⟨by omega, by rw [Int.toNat_of_nonneg hy0, hval, ← s4]; exact fun h => e h.symm⟩
    ·rw [Int.toNat_of_nonneg hy0, hval, s4]
 have hlen := QaU hnd hsub
 rw [List.length_append, List.length_map, List.length_range] at hlen
 refine Nat.le_trans hlen (Nat.add_le_add_left ?_ _)
 unfold Qie
 refine QbZ (M := (Kq t.Vars v).toNat - 1) fun e he => ?_
 rw [List.length_map]
 simp only [List.mem_filter, decide_eq_true_eq] at he
 have her := (hop.eff e he.1).2
 have hv2 := her.2.2.2
 have hv1 := her.2.2.1
 simp only at hv1 hv2
 rw [he.2] at hv2
 have hdv : Kq t.Vars v = t.Vars[v.toNat]?.getD 0 := rfl
 have : ((List.range (Kq t.Vars v).toNat).filter fun (a : Nat) => !decide ((a : Int) = e.Val)).length < (List.range (Kq t.Vars v).toNat).length := by
  rw [List.length_filter_lt_length_iff_exists]
  exact ⟨e.Val.toNat, by simp; omega, by simp; omega⟩
 rw [List.length_range] at this
 omega
theorem Qn0 : ∀ k, k < 65 → ∀ e, e < 9 → 1 ≤ k → (k + e * (k - 1)) ^ 2 * 16 ^ e ≤ 25 ^ e * k ^ 3 := by decide +kernel
def Qol (o : Op) (m : Nat) : Nat := (o.Effs.filter fun e => decide (e.Var < (m : Int))).length
def EB (f S P : Nat) : Prop := f ^ 2 * 16 ^ S ≤ 25 ^ S * P ^ 3
theorem EB.mul {f g S e P k : Nat} (h : EB f S P) (h' : EB g e k) : EB (f * g) (S + e) (P * k) := by
 unfold EB at *
 have := Nat.mul_le_mul h h'
 have e1 : (f * g) ^ 2 * 16 ^ (S + e) = f ^ 2 * 16 ^ S * (g ^ 2 * 16 ^ e) := by rw [Nat.mul_pow, Nat.pow_add]; ac_rfl
 have e2 : 25 ^ (S + e) * (P * k) ^ 3 = 25 ^ S * P ^ 3 * (25 ^ e * k ^ 3) := by rw [Nat.mul_pow, Nat.pow_add]; ac_rfl
 rw [e1, e2]
 exact this
theorem EB.le {f f' S P : Nat} (h : EB f S P) (hf : f' ≤ f) : EB f' S P := Nat.le_trans (Nat.mul_le_mul_right _ (Nat.pow_le_pow_left hf 2)) h
theorem EB.top {f S P : Nat} (h : EB f S P) (hS : S ≤ 8) (hP : P ≤ 100) : f ≤ 8192 := by
 unfold EB at h
 have h1 : f ^ 2 * 16 ^ 8 ≤ 25 ^ 8 * 100 ^ 3 := by
  have e16 : (16 : Nat) ^ 8 = 16 ^ S * 16 ^ (8 - S) := by rw [← Nat.pow_add]; congr 1; omega
  have e25 : (25 : Nat) ^ 8 = 25 ^ S * 25 ^ (8 - S) := by rw [← Nat.pow_add]; congr 1; omega
  have a1 : (16 : Nat) ^ (8 - S) ≤ 25 ^ (8 - S) := Nat.pow_le_pow_left (by omega) _
  have a2 : P ^ 3 ≤ 100 ^ 3 := Nat.pow_le_pow_left hP 3
  have b1 : f ^ 2 * 16 ^ 8 = f ^ 2 * 16 ^ S * 16 ^ (8 - S) := by rw [e16]; ac_rfl
  have b2 : f ^ 2 * 16 ^ S * 16 ^ (8 - S) ≤ 25 ^ S * P ^ 3 * 25 ^ (8 - S) := Nat.mul_le_mul h a1
  have b3 : 25 ^ S * P ^ 3 * 25 ^ (8 - S) ≤ 25 ^ S * 100 ^ 3 * 25 ^ (8 - S) := Nat.mul_le_mul_right _ (Nat.mul_le_mul_left _ a2)
  have b4 : 25 ^ S * 100 ^ 3 * 25 ^ (8 - S) = 25 ^ 8 * 100 ^ 3 := by rw [e25]; ac_rfl
  rw [b1, ← b4]
  exact Nat.le_trans b2 b3
 by_cases hf : f ≤ 8192
 ·exact hf
 ·have h2 : 8193 ^ 2 * 16 ^ 8 ≤ f ^ 2 * 16 ^ 8 := Nat.mul_le_mul_right _ (Nat.pow_le_pow_left (by omega) 2)
  have := Nat.le_trans h2 h1
  exact absurd this (by decide)
theorem QmM {t : Task} {v : Int} {x : System} (ht : GoodT t) (h0 : 0 ≤ v) (h1 : v < (t.Vars.length : Int)) (hx : AtomRes t v x) {l : Nat} {o : Op} (ho : t.Ops[l]? = some o) (he : o.Effs.length ≤ 8) : EB (JH x l).length (Qie o v) (Kq t.Vars v).toNat := by
 have hd := KH ht.v h0 h1
 have hle : Qie o v ≤ o.Effs.length := List.length_filter_le _ _
 have h := Qn0 (Kq t.Vars v).toNat (by omega) (Qie o v) (by omega) (by omega)
 exact EB.le (f := (Kq t.Vars v).toNat + Qie o v * ((Kq t.Vars v).toNat - 1)) h (QkN ht h0 h1 hx ho)
theorem AtomRes.vsys {t : Task} {v : Int} {x : System} (ht : GoodT t) (h0 : 0 ≤ v) (h1 : v < (t.Vars.length : Int)) (hx : AtomRes t v x) : VSys x := by
 have hd := KH ht.v h0 h1
 have hno := ht.no
 obtain ⟨x0, hx0, hx1, hx2⟩ := ht.init.at h0 h1
 have hi := hx.i
 rw [hx0] at hi
 have hi := Zu hi
 have hs := hx.s
 refine ⟨by omega, by omega, by omega, by omega, by rw [hx.gl, hs], by rw [hx.c]; simpa using hno, hx.n, ?_, ?_, ?_⟩
 ·intro c hc
  rw [hx.c] at hc
  obtain ⟨o, ho, rfl⟩ := List.mem_map.1 hc
  exact ⟨(ht.op o ho).c0, (ht.op o ho).c1⟩
 ·intro d hd'
  obtain ⟨i, o, ho, hl, σ, s1, s2, s3, s4⟩ := (hx.mem d).1 hd'
  have hop := ht.op o (List.mem_of_getElem? ho)
  obtain ⟨y, hy, hy0, hy1⟩ := s1.at h0 h1
  have hr := Qgp hy hy0 hy1 (effs := o.Effs) fun e he => (hop.eff e he).2
  rw [hy] at s2
  have s2 := Zu s2
  have hlt := (List.getElem?_eq_some_iff.1 ho).1
  rw [hs, hx.c, List.length_map]
  omega
 ·intro i d e hd' he
  have hp := List.pairwise_iff_getElem.1 hx.srt
  obtain ⟨h1, rfl⟩ := List.getElem?_eq_some_iff.1 hd'
  obtain ⟨h2, rfl⟩ := List.getElem?_eq_some_iff.1 he
  exact hp i (i + 1) h1 h2 (by omega)
def QnR (t : Task) (m : Nat) (s : List Int) : Prop := ∀ f ∈ t.Goal, f.Var < (m : Int) → s[f.Var.toNat]? = some f.Val
def QnX (t : Task) (o : Op) (m : Nat) (s s' : List Int) : Prop := ∀ (w : Nat) (a b : Int), w < m → s[w]? = some a → s'[w]? = some b → TB t o w a b
structure XRes (t : Task) (m : Nat) (x : System) : Prop where
 v : VSys x
 s : x.States = K5 (t.Vars.take m)
 c : x.Costs = t.Ops.map fun o => o.Cost
 g : ∀ s, StateOK (t.Vars.take m) s → ∃ b, x.Goals[(rk (t.Vars.take m) s).toNat]? = some b ∧ (b = true ↔ QnR t m s)
 e : ∀ d, d ∈ x.Edges ↔ ∃ (s s' : List Int) (i : Nat) (o : Op), StateOK (t.Vars.take m) s ∧ StateOK (t.Vars.take m) s' ∧ t.Ops[i]? = some o ∧ d = ⟨rk (t.Vars.take m) s, (i : Int), rk (t.Vars.take m) s'⟩ ∧ QnX t o m s s'
 b : ∀ (l : Nat) (o : Op), t.Ops[l]? = some o → EB (JH x l).length (Qol o m) (K5 (t.Vars.take m)).toNat
theorem StateOK.one {k : Int} {s : List Int} : StateOK [k] s ↔ ∃ x, s = [x] ∧ 0 ≤ x ∧ x < k := by
 have := StateOK.snoc (vars := []) (k := k) (s := s)
 simp only [List.nil_append] at this
 rw [this]
 constructor
 ·rintro ⟨s', x, rfl, h, h0, h1⟩
  rw [h.eq_nil]
  exact ⟨x, Z, h0, h1⟩
 ·rintro ⟨x, rfl, h0, h1⟩
  exact ⟨[], x, Z, StateOK.nil, h0, h1⟩
theorem Qku {a b z : System} (hz : ProdRes a b z) (ha : VSys a) (hb : VSys b) (l : Nat) : (JH z l).length ≤ (JH a l).length * (JH b l).length := by
 rw [← QfP]
 refine QaU (List.Pairwise.filter _ (Srt.nodup hz.o)) fun d hd => ?_
 obtain ⟨hd1, hd2⟩ := KM.1 hd
 obtain ⟨e, he, f, hf, hef, rfl⟩ := (hz.e d).1 hd1
 have hl : e.Label = (l : Int) := hd2
 unfold Qg9
 rw [List.mem_flatMap]
 refine ⟨e, KM.2 ⟨he, hl⟩, ?_⟩
 rw [List.mem_map]
 exact ⟨f, KM.2 ⟨hf, by rw [← hef]; exact hl⟩, by rw [hl]⟩
end Go.Pw
/- -/
set_option maxHeartbeats 4000000
namespace Go.Pw
theorem Qm3 {vars s : List Int} (hv : ∀ n ∈ vars, 1 ≤ n ∧ n ≤ 64) (hp : K5 vars ≤ 4096) (hs : StateOK vars s) : Qdj vars s = some (rk vars s) := by
 unfold Qdj
 refine QbW (Ok.bind (J5 (fun i n => n = rk (vars.take i) (s.take i)) (by simp [Qjh]) ?_ ?_))
 ·rintro i n hi rfl
  obtain ⟨x, hx⟩ := QH hi
  obtain ⟨k, hk⟩ := QH (xs := vars) (i := i) (by rw [← hs.len]; exact hi)
  have hkr := hv k (List.mem_of_getElem? hk)
  have hst := hs.take i
  have hst1 := hs.take (i + 1)
  have hpos : ∀ m, ∀ n ∈ vars.take m, 1 ≤ n := fun m n hn => (hv n (List.mem_of_mem_take hn)).1
  have h0 := Qeg (hpos i) hst
  have h1 := Qeg (hpos (i + 1)) hst1
  have hle := Qbi (l := vars) (fun x hx => (hv x hx).1) i
  have hle1 := Qbi (l := vars) (fun x hx => (hv x hx).1) (i + 1)
  have hsn : rk (vars.take (i + 1)) (s.take (i + 1)) = rk (vars.take i) (s.take i) * k + x := by
   rw [Jg hk, Jg hx, QhB hst.len]
  have hxr := hs.r i x k hx hk
  have b1 : rk (vars.take i) (s.take i) * k ≤ 4096 * 64 := Int.mul_le_mul (by omega) hkr.2 (by omega) (by omega)
  have b0 : 0 ≤ rk (vars.take i) (s.take i) * k := Int.mul_nonneg h0.1 (by omega)
  rw [hsn]
  simp only [Q6, hk, hx, Option.bind_some]
  rw [Jo (n := rk (vars.take i) (s.take i) * k) (by omega) (by omega), Jo (by omega) (by omega)]
  exact Ok.ret Z
 ·rintro n rfl
  rw [List.take_length, hs.len, List.take_length]
  exact Ok.ret Z
def BA (t : Task) : Qhw := fun v u w => ∃ (s : List Int) (i : Nat) (o : Op), StateOK t.Vars s ∧ t.Ops[i]? = some o ∧ Kt o.Pre s ∧ w = o.Cost ∧ rk t.Vars (JT o.Effs s) = (v : Int) ∧ rk t.Vars s = (u : Int)
def QdQ (t : Task) : Nat → Prop := fun i => ∃ s, StateOK t.Vars s ∧ rk t.Vars s = (i : Int) ∧ Kt t.Goal s
def BE (t : Task) (e : base_Edge) : Prop := ∃ (s : List Int) (i : Nat) (o : Op), StateOK t.Vars s ∧ t.Ops[i]? = some o ∧ Kt o.Pre s ∧ e = ⟨rk t.Vars s, (i : Int), rk t.Vars (JT o.Effs s)⟩
theorem QlY {t : Task} (ht : SmallT t) : Ok (QcM t) fun L => ∀ e, e ∈ L ↔ BE t e := by
 have hno := ht.no
 have hp := ht.p
 have hv1 : ∀ n ∈ t.Vars, 1 ≤ n := fun n hn => (ht.g.v n hn).1
 unfold QcM
 rw [QgY ht.g.v ht.g.nv (by omega)]
 have hL := Qca (vars := t.Vars) fun x hx => by have := ht.g.v x hx; omega
 have hLm : ∀ s, s ∈ Js t.Vars ↔ StateOK t.Vars s := fun s => Qbe
 have hLr : ∀ (i : Nat) s, (Js t.Vars)[i]? = some s → rk t.Vars s = (i : Int) := fun i s h => Qna hv1 h
 generalize Js t.Vars = L at *
 simp only [Option.bind_some]
 refine Ok.bind (J5 (fun j E => (∀ e, e ∈ E ↔ ∃ (s : List Int) (i : Nat) (o : Op), s ∈ L.take j ∧ t.Ops[i]? = some o ∧ Kt o.Pre s ∧ e = ⟨rk t.Vars s, (i : Int), rk t.Vars (JT o.Effs s)⟩) ∧ E.length ≤ j * 20) ⟨by simp, by simp⟩ ?_ ?_)
 ·rintro j E hj ⟨f2, f3⟩
  obtain ⟨s, hs⟩ := QH hj
  have hsm := List.mem_of_getElem? hs
  have hok := (hLm s).1 hsm
  have hrk := hLr j s hs
  simp only [Q6, hs, Option.bind_some]
  refine Ok.bind (J5 (fun i E' => (∀ e, e ∈ E' ↔ e ∈ E ∨ ∃ (k : Nat) (o : Op), k < i ∧ t.Ops[k]? = some o ∧ Kt o.Pre s ∧ e = ⟨rk t.Vars s, (k : Int), rk t.Vars (JT o.Effs s)⟩) ∧ E'.length ≤ E.length + i) ⟨fun e => ⟨fun h => .inl h, fun h => ?_⟩, by simp⟩ ?_ ?_)
  ·rcases h with h | ⟨k, _, hk, _⟩
   ·exact h
   ·omega
  ·rintro i E' hi ⟨g2, g3⟩
   obtain ⟨o, ho⟩ := QH hi
   have hop := ht.g.op o (List.mem_of_getElem? ho)
   obtain ⟨r, hr, hr1, hr2⟩ := Qmj ht.g ho hok
   rw [hr]
   simp only [Option.bind_some]
   have hnew : ∀ e : base_Edge, (∃ (k : Nat) (o' : Op), k < i + 1 ∧ t.Ops[k]? = some o' ∧ Kt o'.Pre s ∧ e = ⟨rk t.Vars s, (k : Int), rk t.Vars (JT o'.Effs s)⟩) ↔
     (∃ (k : Nat) (o' : Op), k < i ∧ t.Ops[k]? = some o' ∧ Kt o'.Pre s ∧ e = ⟨rk t.Vars s, (k : Int), rk t.Vars (JT o'.Effs s)⟩) ∨ (Kt o.Pre s ∧ e = ⟨rk t.Vars s, (i : Int), rk t.Vars (JT o.Effs s)⟩) := by
    intro e
    constructor
    ·rintro ⟨k, o', hk, ho', h2, h3⟩
     by_cases he : k = i
     ·subst he
      rw [ho] at ho'; cases ho'
      exact .inr ⟨h2, h3⟩
     ·exact .inl ⟨k, o', by omega, ho', h2, h3⟩
    ·rintro (⟨k, o', hk, ho', h⟩ | ⟨h2, rfl⟩)
     ·exact ⟨k, o', by omega, ho', h⟩
     ·exact ⟨i, o, by omega, ho, h2, Z⟩
   by_cases hh : Kt o.Pre s
   ·rw [hr1 hh]
    have haok := QbA hok (effs := o.Effs) fun e he => (hop.eff e he).2
    simp only [J2, if_true, Qm3 ht.g.v (by omega) haok, Option.bind_some]
    rw [JM (by simp only [List.length_singleton]; omega)]
    simp only [Option.bind_some]
    refine Ok.ret ⟨fun e => ?_, by simp; omega⟩
    rw [List.mem_append, List.mem_singleton, g2, hnew, ← hrk]
    constructor
    ·rintro ((h | h) | h)
     ·exact .inl h
     ·exact .inr (.inl h)
     ·exact .inr (.inr ⟨hh, h⟩)
    ·rintro (h | h | ⟨_, h⟩)
     ·exact .inl (.inl h)
     ·exact .inl (.inr h)
     ·exact .inr h
   ·rw [hr2 hh]
    simp only [J2, Bool.false_eq_true, if_false, Option.bind_some]
    refine Ok.ret ⟨fun e => ?_, by omega⟩
    rw [g2, hnew]
    constructor
    ·rintro (h | h)
     ·exact .inl h
     ·exact .inr (.inl h)
    ·rintro (h | h | ⟨h, _⟩)
     ·exact .inl h
     ·exact .inr h
     ·exact absurd h hh
  ·rintro E' ⟨g2, g3⟩
   refine Ok.ret ⟨fun e => ?_, by rw [Nat.succ_mul]; omega⟩
   rw [g2, f2, Jg hs]
   constructor
   ·rintro (⟨s', i, o, a1, a2⟩ | ⟨k, o, _, a1, a2⟩)
    ·exact ⟨s', i, o, List.mem_append_left _ a1, a2⟩
    ·exact ⟨s, k, o, by simp, a1, a2⟩
   ·rintro ⟨s', i, o, a1, a2, a3⟩
    rcases List.mem_append.1 a1 with a1 | a1
    ·exact .inl ⟨s', i, o, a1, a2, a3⟩
    ·simp only [List.mem_singleton] at a1; subst a1
     exact .inr ⟨i, o, (List.getElem?_eq_some_iff.1 a2).1, a2, a3⟩
 ·rintro E ⟨f2, f3⟩
  rw [List.take_length] at f2
  refine Ok.ret fun e => ?_
  rw [f2]
  unfold BE
  constructor
  ·rintro ⟨s, i, o, a1, a2⟩; exact ⟨s, i, o, (hLm s).1 a1, a2⟩
  ·rintro ⟨s, i, o, a1, a2⟩; exact ⟨s, i, o, (hLm s).2 a1, a2⟩
theorem Qjn {t : Task} (ht : SmallT t) : AOK (BA t) (QdQ t) (K5 t.Vars).toNat := by
 have hv1 : ∀ n ∈ t.Vars, 1 ≤ n := fun n hn => (ht.g.v n hn).1
 constructor
 ·rintro v u w ⟨s, i, o, hs, ho, hp, rfl, h1, h2⟩
  have hop := ht.g.op o (List.mem_of_getElem? ho)
  have haok := QbA hs (effs := o.Effs) fun e he => (hop.eff e he).2
  have := Qeg hv1 hs
  have := Qeg hv1 haok
  exact ⟨by omega, by omega, hop.c0, hop.c1⟩
 ·rintro i ⟨s, hs, h1, _⟩
  have := Qeg hv1 hs
  omega
theorem Qmg {t : Task} (ht : SmallT t) : Ok (Qbm t) (SP (BA t) (QdQ t) (K5 t.Vars).toNat) := by
 classical
 have hA := Qjn ht
 have hI : (Inf : Int) = 1125899906842624 := rfl
 have hp := ht.p
 have hv1 : ∀ n ∈ t.Vars, 1 ≤ n := fun n hn => (ht.g.v n hn).1
 have hpp := Qb4 hv1
 obtain ⟨E, hE, hEm⟩ := QlY ht
 unfold Qbm
 rw [QgY ht.g.v ht.g.nv (by omega)]
 have hL := Qca (vars := t.Vars) fun x hx => by have := ht.g.v x hx; omega
 have hLm : ∀ s, s ∈ Js t.Vars ↔ StateOK t.Vars s := fun s => Qbe
 have hLr : ∀ (i : Nat) s, (Js t.Vars)[i]? = some s → rk t.Vars s = (i : Int) := fun i s h => Qna hv1 h
 have hLg : ∀ s, StateOK t.Vars s → (Js t.Vars)[(rk t.Vars s).toNat]? = some s := fun s h => (Qh1 hv1 h).2
 generalize Js t.Vars = L at *
 have hn : (K5 t.Vars).toNat = L.length := by omega
 rw [hn] at hA ⊢
 simp only [Option.bind_some]
 refine Ok.step (QaK (by omega) (by omega)) (Ok.bind ?_)
 refine J5 (fun i l => l.length = L.length ∧ ∀ j s, j < i → L[j]? = some s → l[j]? = some (if Kt t.Goal s then 0 else Inf)) ⟨by simp, fun j s hj => by omega⟩ ?_ ?_
 ·rintro i l hi ⟨h1, h2⟩
  obtain ⟨s, hs⟩ := QH hi
  have hok := (hLm s).1 (List.mem_of_getElem? hs)
  obtain ⟨y, hy⟩ := QH (xs := l) (i := i) (by omega)
  simp only [Q6, hs, hy, Option.bind_some, JB (show i < l.length by omega), Qhy ht.g.goal hok.len]
  by_cases hg : Kt t.Goal s
  ·simp only [hg, decide_true, if_true]
   rw [List.getElem?_set_self (by omega)]
   simp only [Option.bind_some]
   rw [JB (by simp; omega)]
   refine Ok.ret ⟨by simp [h1], fun j s' hj hs' => ?_⟩
   by_cases e : j = i
   ·subst e
    rw [hs] at hs'; cases hs'
    rw [List.getElem?_set_self (by simp; omega), if_pos hg]
   ·rw [List.getElem?_set_ne (Ne.symm e), List.getElem?_set_ne (Ne.symm e)]
    exact h2 j s' (by omega) hs'
  ·simp only [hg, decide_false, Bool.false_eq_true, if_false, Option.bind_some]
   refine Ok.ret ⟨by simp [h1], fun j s' hj hs' => ?_⟩
   by_cases e : j = i
   ·subst e
    rw [hs] at hs'; cases hs'
    rw [List.getElem?_set_self (by omega), if_neg hg]
   ·rw [List.getElem?_set_ne (Ne.symm e)]
    exact h2 j s' (by omega) hs'
 rintro l0 ⟨hl1, hl2⟩
 have hD0 : Dst (BA t) (QdQ t) L.length l0 := by
  have get : ∀ (i : Nat) (y : Int), l0[i]? = some y → ∃ s, L[i]? = some s ∧ y = if Kt t.Goal s then 0 else Inf := by
   intro i y hy
   have hi := (List.getElem?_eq_some_iff.1 hy).1
   obtain ⟨s, hs⟩ := QH (show i < L.length by omega)
   have := hl2 i s (by omega) hs
   rw [hy] at this
   exact ⟨s, hs, Zu this⟩
  refine ⟨hl1, fun i y hy => ?_, fun i hi => ?_, fun i y hy hlt => ?_⟩
  ·obtain ⟨s, hs, rfl⟩ := get i y hy
   split <;> omega
  ·obtain ⟨s, hs, hr, hg⟩ := hi
   have := hLg s hs
   rw [hr, Int.toNat_natCast] at this
   have h := hl2 i s (List.getElem?_eq_some_iff.1 this).1 this
   rw [h, if_pos hg]
  ·obtain ⟨s, hs, rfl⟩ := get i y hy
   by_cases hg : Kt t.Goal s
   ·rw [if_pos hg]
    exact .base ⟨s, (hLm s).1 (List.mem_of_getElem? hs), hLr i s hs, hg⟩
   ·rw [if_neg hg] at hlt; omega
 refine Ok.step hE ?_
 refine YZ (fun s : Bool × List Int => Dst (BA t) (QdQ t) L.length s.2 ∧ (s.1 = false → ∀ v, Qih (BA t) s.2 v)) (fun s => Dst (BA t) (QdQ t) L.length s.2 ∧ ∀ v, Qih (BA t) s.2 v) (fun _ => False) (fun s => tot s.2 + (if s.1 then 1 else 0)) ⟨hD0, by simp⟩ ?_ (fun _ h => h.elim) ?_
 ·rintro ⟨ch, l⟩ ⟨hD, hcl⟩
  cases ch with
  | false => exact ⟨.brk (false, l), rfl, by simp, fun s' e => by cases e; exact ⟨hD, hcl rfl⟩, by simp⟩
  | true =>
   suffices hpass : Ok (forS (fun i101 => J2 fun (changed101 : Bool) (l106 : (List Int)) => (Jc E (i101 : Int)).bind fun x103 =>
     (Jc t.Ops x103.Op).bind fun x104 =>
     ((Jc l106 x103.To).bind fun x105 =>
     if decide (x105 < 1125899906842624) then ((Jc l106 x103.From).bind fun x106 =>
     some (decide ((IntKind.i64.wrap (x105 + x104.Cost)) < x106)))
     else (some false)).bind (fun (z100 : Bool) => (if z100 then ((Jc l106 x103.To).bind fun x107 =>
     (Jc l106 x103.From).bind fun x108 =>
     (Kv l106 x103.From (IntKind.i64.wrap (x107 + x104.Cost))).bind fun l107 =>
     some (true, l107))
     else (some (changed101, l106))).bind (J2 fun (changed102 : Bool) (l108 : (List Int)) => some (changed102, l108)))) (E.length) 0 (false, l))
     (fun s => Dst (BA t) (QdQ t) L.length s.2 ∧ (s.1 = true → tot s.2 < tot l) ∧ (s.1 = false → s.2 = l ∧ ∀ v, Qih (BA t) l v)) by
    obtain ⟨⟨ch', l'⟩, hr, h1, h2, h3⟩ := hpass
    refine ⟨.next (ch', l'), ?_, fun s' e => ?_, by simp, by simp⟩
    ·show ((forS _ _ 0 (false, l)).bind _) = _
     rw [hr]; rfl
    ·cases e
     cases ch' with
     | true => have := h2 rfl; exact ⟨⟨h1, by simp⟩, by simp; omega⟩
     | false =>
      obtain ⟨e, hc⟩ := h3 rfl
      simp only at e
      subst e
      exact ⟨⟨h1, fun _ => hc⟩, by simp⟩
   refine J5 (fun i s => Dst (BA t) (QdQ t) L.length s.2 ∧ tot s.2 ≤ tot l ∧ (s.1 = true → tot s.2 < tot l) ∧ (s.1 = false → s.2 = l ∧ ∀ e ∈ E.take i, ∀ (v u k : Nat) (o : Op) (a b : Int), e = ⟨(u : Int), (k : Int), (v : Int)⟩ → t.Ops[k]? = some o → l[v]? = some a → l[u]? = some b → a < Inf → b ≤ a + o.Cost)) ?_ ?_ ?_
   ·exact ⟨hD, Nat.le_refl _, by simp, fun _ => ⟨Z, by simp⟩⟩
   ·rintro i ⟨ch, k⟩ hi ⟨h1, h2, h3, h4⟩
    simp only at h1 h2 h3 h4
    obtain ⟨d, hd⟩ := QH hi
    have hdm := List.mem_of_getElem? hd
    obtain ⟨s, lb, o, hs, ho, hpre, rfl⟩ := (hEm d).1 hdm
    have hop := ht.g.op o (List.mem_of_getElem? ho)
    have haok := QbA hs (effs := o.Effs) fun e he => (hop.eff e he).2
    have r1 := Qeg hv1 hs
    have r2 := Qeg hv1 haok
    obtain ⟨f, hf⟩ : ∃ f : Nat, rk t.Vars s = (f : Int) := ⟨(rk t.Vars s).toNat, by omega⟩
    obtain ⟨g, hg⟩ : ∃ g : Nat, rk t.Vars (JT o.Effs s) = (g : Int) := ⟨(rk t.Vars (JT o.Effs s)).toNat, by omega⟩
    have harc : BA t g f o.Cost := ⟨s, lb, o, hs, ho, hpre, rfl, hg, hf⟩
    rw [hf, hg] at hd
    have hfl : f < L.length := by omega
    have hgl : g < L.length := by omega
    obtain ⟨a, ha⟩ := QH (xs := k) (i := g) (by rw [h1.len]; exact hgl)
    obtain ⟨b, hb⟩ := QH (xs := k) (i := f) (by rw [h1.len]; exact hfl)
    have ra := h1.rng g a ha
    have rb := h1.rng f b hb
    have c0 := hop.c0
    have c1 := hop.c1
    have hw : IntKind.i64.wrap (a + o.Cost) = a + o.Cost := Jo (by omega) (by omega)
    have hmore : ∀ (hk : ch = false), ¬ (a < Inf ∧ a + o.Cost < b) → k = l ∧ ∀ e ∈ E.take (i + 1), ∀ (v u k : Nat) (o : Op) (a b : Int), e = ⟨(u : Int), (k : Int), (v : Int)⟩ → t.Ops[k]? = some o → l[v]? = some a → l[u]? = some b → a < Inf → b ≤ a + o.Cost := by
     intro hk hnot
     obtain ⟨e1, e2⟩ := h4 hk
     refine ⟨e1, ?_⟩
     intro e he v u kk o' a' b' hee ho' ha' hb' hlt
     rw [Jg hd] at he
     rcases List.mem_append.1 he with he | he
     ·exact e2 e he v u kk o' a' b' hee ho' ha' hb' hlt
     ·simp only [List.mem_singleton] at he
      subst he
      simp only [base_Edge.mk.injEq] at hee
      have g1 : lb = kk := by omega
      have g2 : g = v := by omega
      have g3 : f = u := by omega
      subst g1 g2 g3
      rw [ho] at ho'; cases ho'
      rw [e1] at ha hb
      rw [ha] at ha'; cases ha'
      rw [hb] at hb'; cases hb'
      omega
    simp only [J2, Q6, hd, ho, ha, hb, Option.bind_some, hw]
    by_cases hlt : a < 1125899906842624
    ·simp only [hlt, decide_true, if_true, Option.bind_some]
     by_cases hl2 : a + o.Cost < b
     ·simp only [hl2, decide_true, if_true, JB (show f < k.length by rw [h1.len]; exact hfl), Option.bind_some]
      have htt := Qh7 (l := k) (u := f) (y := b) (z := a + o.Cost) hb (by omega) hl2
      refine Ok.ret ⟨h1.set hA harc ha hb hl2, by simp only; omega, fun _ => by simp only; omega, by simp⟩
     ·simp only [hl2, decide_false, Bool.false_eq_true, if_false, Option.bind_some]
      exact Ok.ret ⟨h1, h2, h3, fun hk => hmore hk (fun hx => hl2 hx.2)⟩
    ·simp only [hlt, decide_false, Bool.false_eq_true, if_false, Option.bind_some]
     exact Ok.ret ⟨h1, h2, h3, fun hk => hmore hk (fun hx => hlt hx.1)⟩
   ·rintro ⟨ch, k⟩ ⟨h1, h2, h3, h4⟩
    refine ⟨h1, h3, fun hk => ⟨(h4 hk).1, ?_⟩⟩
    rintro v u w a b ⟨s, i, o, hs, ho, hpre, rfl, e1, e2⟩ hx hy hlt
    have h5 := (h4 hk).2
    rw [List.take_length] at h5
    exact h5 _ ((hEm _).2 ⟨s, i, o, hs, ho, hpre, Z⟩) v u i o a b (by rw [e1, e2]) ho hx hy hlt
 ·rintro ⟨ch, l⟩ ⟨h1, h2⟩
  exact Ok.ret { h1 with cl := h2 }
end Go.Pw
/- -/
set_option maxHeartbeats 4000000
namespace Go.Pw
structure WS (n : Nat) (x : System) : Prop where
 s : x.States = (n : Int)
 n1 : n ≤ 4096
 g : x.Goals.length = n
 e : x.Edges.length ≤ 65536
 edge : ∀ d ∈ x.Edges, ∃ f t l : Nat, d = ⟨(f : Int), (l : Int), (t : Int)⟩ ∧ f < n ∧ t < n ∧ ∃ c, x.Costs[l]? = some c ∧ 0 ≤ c ∧ c ≤ 1048576
theorem VSys.ws {x : System} (h : VSys x) : WS x.States.toNat x := by
 have h1 := h.s1; have h2 := h.s2; have h3 := h.g
 refine ⟨by omega, by omega, by omega, h.e, fun d hd => ?_⟩
 obtain ⟨a1, a2, a3, a4, a5, a6⟩ := h.edge d hd
 refine ⟨d.From.toNat, d.To.toNat, d.Label.toNat, ?_, by omega, by omega, ?_⟩
 ·obtain ⟨f, l, t⟩ := d
  simp only [Edge.mk.injEq] at *
  omega
 ·obtain ⟨c, hc⟩ := QH (xs := x.Costs) (i := d.Label.toNat) (by omega)
  obtain ⟨b1, b2⟩ := h.cost c (List.mem_of_getElem? hc)
  exact ⟨c, hc, b1, b2⟩
def Qax (x : System) (back : Bool) : Qhw := fun v u w => ∃ d ∈ x.Edges, ∃ l : Nat, d.Label = (l : Int) ∧ x.Costs[l]? = some w ∧ (if back then d.To = (v : Int) ∧ d.From = (u : Int) else d.From = (v : Int) ∧ d.To = (u : Int))
theorem WS.aok {n : Nat} {x : System} (h : WS n x) (back : Bool) {src : Nat → Prop} (hs : ∀ i, src i → i < n) : AOK (Qax x back) src n := by
 refine ⟨?_, hs⟩
 rintro v u w ⟨d, hd, l, hl, hw, hb⟩
 obtain ⟨f, t, l', rfl, hf, ht, c, hc, c0, c1⟩ := h.edge d hd
 have : l' = l := by simp only at hl; omega
 subst this
 rw [hw] at hc; cases hc
 cases back <;> simp at hb <;> omega
def Qhu (x : System) : Nat → Prop := fun i => x.Goals[i]? = some true
end Go.Pw
/- -/
set_option maxHeartbeats 4000000
namespace Go.Pw
def Qbq (Q : List Nat) : List Int := Q.map Int.ofNat
theorem Qgh (q : Nat) : Int.ofNat q = (q : Int) := rfl
theorem QmR {n : Nat} {x : System} (h : WS n x) (back : Bool) : Ok ((mk 24 ([] : (List Arc)) x.States).bind fun l5202 =>
 (forS (fun i5208 => fun (l5432 : (List (List Arc))) => (Jc x.Edges (i5208 : Int)).bind fun x5691 =>
 (Jc x.Costs x5691.Label).bind fun x5742 =>
 (if back then (some (x5691.To, x5691.From))
 else (some (x5691.From, x5691.To))).bind (J2 fun (z5763 : Int) (z5764 : Int) => (Jc l5432 z5763).bind fun row5873 =>
 (app 24 row5873 [(⟨z5763, z5764, x5742⟩ : Arc)]).bind fun l5887 =>
 (Kv l5432 z5763 l5887).bind fun l5894 =>
 some l5894)) (x.Edges.length) 0 l5202)) fun L => L.length = n ∧ ∀ v, v < n → ∃ row, L[v]? = some row ∧ row.length ≤ 65536 ∧ ∀ a, a ∈ row ↔ ∃ (u : Nat) (w : Int), a = ⟨(v : Int), (u : Int), w⟩ ∧ Qax x back v u w := by
 have hn := h.n1
 have he := h.e
 rw [h.s]
 refine Ok.step (QaK (by omega) (by omega)) ?_
 refine J5 (fun i L => L.length = n ∧ ∀ v, v < n → ∃ row, L[v]? = some row ∧ row.length ≤ i ∧ ∀ a, a ∈ row ↔ ∃ (u : Nat) (w : Int), a = ⟨(v : Int), (u : Int), w⟩ ∧ ∃ d ∈ x.Edges.take i, ∃ l : Nat, d.Label = (l : Int) ∧ x.Costs[l]? = some w ∧ (if back then d.To = (v : Int) ∧ d.From = (u : Int) else d.From = (v : Int) ∧ d.To = (u : Int))) ?_ ?_ ?_
 ·exact ⟨by simp, fun v hv => ⟨[], by simp [hv], by simp, by simp⟩⟩
 ·rintro i L hi ⟨h1, h2⟩
  obtain ⟨d, hd⟩ := QH hi
  obtain ⟨f, t, lb, rfl, hf, ht, c, hc, c0, c1⟩ := h.edge d (List.mem_of_getElem? hd)
  have key : ∀ (v u : Nat), v < n → (∀ (v' u' : Nat), (if back then (t : Int) = (v' : Int) ∧ (f : Int) = (u' : Int) else (f : Int) = (v' : Int) ∧ (t : Int) = (u' : Int)) ↔ v' = v ∧ u' = u) →
    Ok ((Jc L (v : Int)).bind fun row5873 => (app 24 row5873 [(⟨(v : Int), (u : Int), c⟩ : Arc)]).bind fun l5887 => (Kv L (v : Int) l5887).bind fun l5894 => some l5894)
    (fun L => L.length = n ∧ ∀ v, v < n → ∃ row, L[v]? = some row ∧ row.length ≤ i + 1 ∧ ∀ a, a ∈ row ↔ ∃ (u : Nat) (w : Int), a = ⟨(v : Int), (u : Int), w⟩ ∧ ∃ d ∈ x.Edges.take (i + 1), ∃ l : Nat, d.Label = (l : Int) ∧ x.Costs[l]? = some w ∧ (if back then d.To = (v : Int) ∧ d.From = (u : Int) else d.From = (v : Int) ∧ d.To = (u : Int))) := by
   intro v u hv hvu
   obtain ⟨row, hrow, hlen, hmem⟩ := h2 v hv
   rw [Q6, hrow]
   simp only [Option.bind_some]
   refine Ok.step (JM (by simp only [List.length_singleton]; omega)) (Ok.step (JB (by omega)) (Ok.ret ⟨by simp [h1], fun v' hv' => ?_⟩))
   have hpart : ∀ (u' : Nat) (w : Int), (∃ d ∈ x.Edges.take (i + 1), ∃ l : Nat, d.Label = (l : Int) ∧ x.Costs[l]? = some w ∧ (if back then d.To = (v' : Int) ∧ d.From = (u' : Int) else d.From = (v' : Int) ∧ d.To = (u' : Int))) ↔
     (∃ d ∈ x.Edges.take i, ∃ l : Nat, d.Label = (l : Int) ∧ x.Costs[l]? = some w ∧ (if back then d.To = (v' : Int) ∧ d.From = (u' : Int) else d.From = (v' : Int) ∧ d.To = (u' : Int))) ∨ (w = c ∧ v' = v ∧ u' = u) := by
    intro u' w
    rw [List.take_add_one, hd]
    simp only [Option.toList_some, List.mem_append, List.mem_singleton, exists_or, or_and_right, exists_eq_left, hvu]
    constructor
    ·rintro (h | ⟨l, hl, hw, hb⟩)
     ·exact .inl h
     ·have : lb = l := by omega
      subst this
      rw [hc] at hw; cases hw
      exact .inr ⟨Z, hb⟩
    ·rintro (h | ⟨rfl, hb⟩)
     ·exact .inl h
     ·exact .inr ⟨lb, Z, hc, hb⟩
   by_cases e : v' = v
   ·subst e
    refine ⟨row ++ [⟨(v' : Int), (u : Int), c⟩], by simp [h1, hv], by simp; omega, fun a => ?_⟩
    rw [List.mem_append, hmem, List.mem_singleton]
    constructor
    ·rintro (⟨u', w, rfl, hh⟩ | rfl)
     ·exact ⟨u', w, Z, (hpart u' w).2 (.inl hh)⟩
     ·exact ⟨u, c, Z, (hpart u c).2 (.inr ⟨Z, Z, Z⟩)⟩
    ·rintro ⟨u', w, rfl, hh⟩
     rcases (hpart u' w).1 hh with hh | ⟨rfl, _, rfl⟩
     ·exact .inl ⟨u', w, Z, hh⟩
     ·exact .inr Z
   ·obtain ⟨row', hrow', hlen', hmem'⟩ := h2 v' hv'
    refine ⟨row', by rw [List.getElem?_set_ne (Ne.symm e)]; exact hrow', by omega, fun a => ?_⟩
    rw [hmem']
    constructor
    ·rintro ⟨u', w, rfl, hh⟩
     exact ⟨u', w, Z, (hpart u' w).2 (.inl hh)⟩
    ·rintro ⟨u', w, rfl, hh⟩
     rcases (hpart u' w).1 hh with hh | ⟨_, h, _⟩
     ·exact ⟨u', w, Z, hh⟩
     ·exact absurd h e
  simp only [Q6, hd, hc, Option.bind_some]
  cases back with
  | true =>
   simp only [if_true, Option.bind_some, J2]
   exact key t f ht (by intro v' u'; simp; omega)
  | false =>
   simp only [Bool.false_eq_true, if_false, Option.bind_some, J2]
   exact key f t hf (by intro v' u'; simp; omega)
 ·rintro L ⟨h1, h2⟩
  refine ⟨h1, fun v hv => ?_⟩
  obtain ⟨row, hrow, hlen, hmem⟩ := h2 v hv
  refine ⟨row, hrow, by omega, fun a => ?_⟩
  rw [hmem, List.take_length]
  rfl
structure QS (n : Nat) (Q : List Nat) (ws : List Bool) (ls : List Int) : Prop where
 l : ls = Qbq Q
 nd : Q.Nodup
 lt : ∀ q ∈ Q, q < n
 wl : ws.length = n
 w : ∀ j, j < n → ws[j]? = some (decide (j ∈ Q))
theorem QiH {n : Nat} {x : System} (h : WS n x) (back : Bool) {S : List Nat} (hS : S.Nodup) (hSn : ∀ i ∈ S, i < n) : Ok (KP x (Qbq S) back) (SP (Qax x back) (fun i => i ∈ S) n) := by
 have hA : AOK (Qax x back) (fun i => i ∈ S) n := h.aok back hSn
 have hn := h.n1
 have hI : (Inf : Int) = 1125899906842624 := rfl
 have hSl : S.length ≤ n := nodup_short' hS hSn
 unfold KP
 obtain ⟨L, hL, hL1, hL2⟩ := QmR h back
 obtain ⟨L0, hL0, hL0'⟩ := Zg hL
 refine Ok.step hL0 (Ok.step hL0' ?_)
 rw [h.s]
 refine Ok.step (QaK (by omega) (by omega)) (Ok.bind ?_)
 refine J5 (fun i l => l.length = n ∧ ∀ j, j < i → l[j]? = some Inf) ⟨by simp, by simp⟩ ?_ ?_
 ·rintro i l hi ⟨h1, h2⟩
  have hi' : i < n := by simpa using hi
  obtain ⟨y, hy⟩ := QH (xs := l) (i := i) (by omega)
  simp only [Q6, hy, Option.bind_some, JB (show i < l.length by omega)]
  refine Ok.ret ⟨by simp [h1], fun j hj => ?_⟩
  by_cases e : j = i
  ·subst e; simp [h1, hi']
  ·rw [List.getElem?_set_ne (Ne.symm e)]; exact h2 j (by omega)
 rintro l1 ⟨hl1, hl2⟩
 have hl2' : ∀ j, j < n → l1[j]? = some Inf := fun j hj => hl2 j (by simpa using hj)
 refine Ok.step (QaK (by omega) (by omega)) ?_
 have hclone : QA (Qbq S) = some (Qbq S) := by
  unfold QA
  rw [JM (by simp [Qbq]; omega)]
  simp
 refine Ok.step hclone (Ok.bind ?_)
 refine J5 (fun i s => s.1.length = n ∧ s.2.length = n ∧ (∀ j, j < n → s.1[j]? = some (if j ∈ S.take i then 0 else Inf)) ∧ ∀ j, j < n → s.2[j]? = some (decide (j ∈ S.take i))) ?_ ?_ ?_
 ·exact ⟨hl1, by simp, fun j hj => by simp [hl2' j hj], fun j hj => by simp [hj]⟩
 ·rintro i ⟨o, ws⟩ hi ⟨h1, h2, h3, h4⟩
  simp only at h1 h2 h3 h4
  have hi' : i < S.length := by simpa [Qbq] using hi
  obtain ⟨q, hq⟩ := QH hi'
  have hqn := hSn q (List.mem_of_getElem? hq)
  have hiq : Jc (Qbq S) (i : Int) = some (q : Int) := by rw [Q6]; simp [Qbq, hq, Qgh]
  simp only [J2, hiq, Option.bind_some, Q6, h3 q hqn, h4 q hqn, JB (show q < o.length by omega), JB (show q < ws.length by omega)]
  refine Ok.ret ⟨by simp [h1], by simp [h2], fun j hj => ?_, fun j hj => ?_⟩
  ·rw [List.take_add_one, hq]
   by_cases e : j = q
   ·subst e; simp [h1, hj]
   ·rw [List.getElem?_set_ne (Ne.symm e), h3 j hj]; simp [e]
  ·rw [List.take_add_one, hq]
   by_cases e : j = q
   ·subst e; simp [h2, hj]
   ·rw [List.getElem?_set_ne (Ne.symm e), h4 j hj]; simp [e]
 rintro ⟨o1, ws1⟩ ⟨ho1, hw1, ho2, hw2⟩
 simp only at ho1 hw1 ho2 hw2
 have hlen : (Qbq S).length = S.length := by simp [Qbq]
 rw [hlen, List.take_length] at ho2 hw2
 have hD : Dst (Qax x back) (fun i => i ∈ S) n o1 := by
  refine ⟨ho1, fun i y hy => ?_, fun i hi => ?_, fun i y hy hlt => ?_⟩
  ·have hi : i < n := by have := (List.getElem?_eq_some_iff.1 hy).1; omega
   rw [ho2 i hi] at hy
   cases hy
   split <;> omega
  ·rw [ho2 i (hSn i hi), if_pos hi]
  ·have hi : i < n := by have := (List.getElem?_eq_some_iff.1 hy).1; omega
   rw [ho2 i hi] at hy
   by_cases hs : i ∈ S
   ·rw [if_pos hs] at hy; cases hy; exact .base hs
   ·rw [if_neg hs] at hy; cases hy; omega
 refine YZ (fun s : List Int × List Bool × List Int => ∃ Q, QS n Q s.2.1 s.2.2 ∧ Dst (Qax x back) (fun i => i ∈ S) n s.1 ∧ ∀ v, v ∉ Q → Qih (Qax x back) s.1 v) (fun s => SP (Qax x back) (fun i => i ∈ S) n s.1) (fun _ => False) (fun s => 2 * tot s.1 + s.2.2.length)
  ⟨S, ⟨rfl, hS, hSn, hw1, hw2⟩, hD, fun v hv u w a b ha hb _ hlt => ?_⟩ ?_ (fun _ h => h.elim) ?_
 ·have hvn := (hA.a v u w ha).1
  simp only at hb
  rw [ho2 v hvn, if_neg hv] at hb
  cases hb
  omega
 ·rintro ⟨o, ws, ls⟩ ⟨Q, hQ, hDo, hCl⟩
  simp only at hQ hDo hCl
  cases Q with
  | nil =>
   have hls : ls = [] := by rw [hQ.l]; rfl
   subst hls
   exact ⟨.brk (o, ws, []), Z, by simp, fun s' e => by cases e; exact { hDo with cl := fun v => hCl v (by simp) }, by simp⟩
  | cons q Q =>
   have hls : ls = (q : Int) :: Qbq Q := by rw [hQ.l]; rfl
   obtain ⟨hqQ, hndQ⟩ := List.nodup_cons.1 hQ.nd
   have hqn : q < n := hQ.lt q (by simp)
   obtain ⟨row, hrow, hrl, hrm⟩ := hL2 q hqn
   obtain ⟨xq, hxq⟩ := QH (xs := o) (i := q) (by rw [hDo.len]; exact hqn)
   have rxq := hDo.rng q xq hxq
   have hcut : cut ls 1 (ls.length : Int) = some (Qbq Q) := by unfold cut; rw [if_pos (by rw [hls]; simp; omega)]; rw [hls]; simp
   have hwq := hQ.w q hqn
   have hpos : (0 : Int) < (ls.length : Int) := by rw [hls]; simp
   have hi0 : Jc ls 0 = some (q : Int) := by rw [hls]; rfl
   suffices hin : Ok (forS (fun i23833 => un3 fun (l24123 : (List Int)) (l24124 : (List Bool)) (l24125 : (List Int)) => (Jc row (i23833 : Int)).bind fun x24458 =>
     (Jc l24123 (q : Int)).bind fun x24516 =>
     (Jc l24123 x24458.To).bind fun x24523 =>
     if decide (x24523 ≤ (IntKind.i64.wrap (x24516 + x24458.Weight))) then (some (l24123, l24124, l24125))
     else ((Kv l24123 x24458.To (IntKind.i64.wrap (x24516 + x24458.Weight))).bind fun l24572 =>
     (Jc l24124 x24458.To).bind fun x24584 =>
     (if !x24584 then ((app 8 l24125 [x24458.To]).bind fun l24696 =>
     (Kv l24124 x24458.To true).bind fun l24705 =>
     some (l24705, l24696))
     else (some (l24124, l24125))).bind (J2 fun (l24647 : (List Bool)) (l24648 : (List Int)) => some (l24572, l24647, l24648)))) (row.length) 0 (o, ws.set q false, Qbq Q))
     (fun s => ∃ Q2, QS n Q2 s.2.1 s.2.2 ∧ Dst (Qax x back) (fun i => i ∈ S) n s.1 ∧ (∀ v, v ∉ Q2 → Qih (Qax x back) s.1 v) ∧ 2 * tot s.1 + Q2.length ≤ 2 * tot o + Q.length) by
    obtain ⟨⟨o', ws', ls'⟩, hr, Q2, g1, g2, g3, g4⟩ := hin
    simp only at g1 g2 g3 g4
    refine ⟨.next (o', ws', ls'), ?_, fun s' e => ?_, by simp, by simp⟩
    ·simp only [un3, hpos, decide_true, if_true, hi0, hcut, Q6, hwq, JB (show q < ws.length by rw [hQ.wl]; exact hqn), hrow, Option.bind_some]
     have hmust : must (decide (row.length ≤ 9223372036854775807)) = some () := by unfold must; rw [if_pos (by simp; omega)]
     rw [hmust]
     simp only [Option.bind_some]
     show ((forS _ _ 0 (o, ws.set q false, Qbq Q)).bind _) = _
     simp only [un3, Q6] at hr
     rw [hr]
     rfl
    ·cases e
     refine ⟨⟨Q2, g1, g2, g3⟩, ?_⟩
     have e1 : ls'.length = Q2.length := by rw [g1.l]; simp [Qbq]
     have e2 : ls.length = Q.length + 1 := by rw [hls]; simp [Qbq]
     simp only [e1, e2]
     omega
   refine J5 (fun i s => ∃ Q2, QS n Q2 s.2.1 s.2.2 ∧ q ∉ Q2 ∧ Dst (Qax x back) (fun i => i ∈ S) n s.1 ∧ s.1[q]? = some xq ∧ (∀ v, v ∉ Q2 → v ≠ q → Qih (Qax x back) s.1 v) ∧
    (∀ (u : Nat) (w y : Int), (⟨(q : Int), (u : Int), w⟩ : Arc) ∈ row.take i → s.1[u]? = some y → y ≤ xq + w) ∧ 2 * tot s.1 + Q2.length ≤ 2 * tot o + Q.length) ?_ ?_ ?_
   ·refine ⟨Q, ⟨Z, hndQ, fun q' h' => hQ.lt q' (by simp [h']), by simp [hQ.wl], fun j hj => ?_⟩, hqQ, hDo, hxq, fun v hv hne => hCl v (by simp [hv, hne]), by simp, Nat.le_refl _⟩
    by_cases e : j = q
    ·subst e; simp [hQ.wl, hj, hqQ]
    ·simp only
     rw [List.getElem?_set_ne (Ne.symm e), hQ.w j hj]; simp [e]
   ·rintro i ⟨k, ws', ls'⟩ hi ⟨Q2, g1, g2, g3, g4, g5, g6, g7⟩
    simp only at g1 g2 g3 g4 g5 g6 g7
    obtain ⟨a, ha⟩ := QH hi
    obtain ⟨u, w, rfl, harc⟩ := (hrm a).1 (List.mem_of_getElem? ha)
    obtain ⟨_, hu, hw0, hw1'⟩ := hA.a q u w harc
    obtain ⟨y, hy⟩ := QH (xs := k) (i := u) (by rw [g3.len]; exact hu)
    have ry := g3.rng u y hy
    have hwr : IntKind.i64.wrap (xq + w) = xq + w := Jo (by omega) (by omega)
    have htk : row.take (i + 1) = row.take i ++ [⟨(q : Int), (u : Int), w⟩] := by rw [List.take_add_one, ha]; rfl
    simp only [un3, Q6, ha, g4, hy, Option.bind_some, hwr]
    by_cases hle : y ≤ xq + w
    ·simp only [hle, decide_true, if_true]
     refine Ok.ret ⟨Q2, g1, g2, g3, g4, g5, ?_, g7⟩
     intro u' w' y' hm hy'
     rw [htk] at hm
     rcases List.mem_append.1 hm with hm | hm
     ·exact g6 u' w' y' hm hy'
     ·simp only [List.mem_singleton, Arc.mk.injEq] at hm
      obtain ⟨_, e1, e2⟩ := hm
      have e1' : u' = u := by omega
      subst e1' e2
      simp only at hy'
      rw [hy] at hy'; cases hy'; exact hle
    ·have hlt : xq + w < y := by omega
     have huq : u ≠ q := by
      rintro rfl
      rw [g4] at hy; cases hy; omega
     have hD' := g3.set hA harc g4 hy hlt
     have hq' : (k.set u (xq + w))[q]? = some xq := by rw [List.getElem?_set_ne huq]; exact g4
     have hmono : ∀ (v : Nat) (b : Int), (k.set u (xq + w))[v]? = some b → ∃ b', k[v]? = some b' ∧ b ≤ b' := by
      intro v b hb
      by_cases e : u = v
      ·subst e
       rw [List.getElem?_set_self (by rw [g3.len]; exact hu)] at hb
       cases hb
       exact ⟨y, hy, by omega⟩
      ·rw [List.getElem?_set_ne e] at hb; exact ⟨b, hb, Int.le_refl _⟩
     have htot := Qh7 (l := k) (u := u) (y := y) (z := xq + w) hy (by omega) hlt
     have hcl' : ∀ Q3 : List Nat, u ∈ Q3 → (∀ v, v ∉ Q3 → v ∉ Q2) → ∀ v, v ∉ Q3 → v ≠ q → Qih (Qax x back) (k.set u (xq + w)) v := by
      intro Q3 hu3 hsub v hv hvq u2 w2 a2 b2 harc2 ha2 hb2 hlt2
      have hvu : u ≠ v := by rintro rfl; exact hv hu3
      rw [List.getElem?_set_ne hvu] at ha2
      obtain ⟨b', hb', hle'⟩ := hmono u2 b2 hb2
      have := g5 v (hsub v hv) hvq u2 w2 a2 b' harc2 ha2 hb' hlt2
      omega
     have hproc : ∀ (u' : Nat) (w' y' : Int), (⟨(q : Int), (u' : Int), w'⟩ : Arc) ∈ row.take (i + 1) → (k.set u (xq + w))[u']? = some y' → y' ≤ xq + w' := by
      intro u' w' y' hm hy'
      rw [htk] at hm
      rcases List.mem_append.1 hm with hm | hm
      ·obtain ⟨b', hb', hle'⟩ := hmono u' y' hy'
       have := g6 u' w' b' hm hb'
       omega
      ·simp only [List.mem_singleton, Arc.mk.injEq] at hm
       obtain ⟨_, e1, e2⟩ := hm
       have e1' : u' = u := by omega
       subst e1' e2
       rw [List.getElem?_set_self (by rw [g3.len]; exact hu)] at hy'
       cases hy'; exact Int.le_refl _
     simp only [hle, decide_false, Bool.false_eq_true, if_false, JB (show u < k.length by rw [g3.len]; exact hu), g1.w u hu, Option.bind_some]
     by_cases hin : u ∈ Q2
     ·simp only [hin, decide_true, Bool.not_true, Bool.false_eq_true, if_false, Option.bind_some, J2]
      exact Ok.ret ⟨Q2, g1, g2, hD', hq', hcl' Q2 hin (fun v hv => hv), hproc, by simp only; omega⟩
     ·have hQl := nodup_short' g1.nd g1.lt
      have hll : ls'.length = Q2.length := by rw [g1.l]; simp [Qbq]
      simp only [hin, decide_false, Bool.not_false, if_true, Option.bind_some, J2, JM (show (ls'.length + [((u : Nat) : Int)].length) * 8 ≤ 140737488355328 by rw [hll, List.length_singleton]; omega), JB (show u < ws'.length by rw [g1.wl]; exact hu)]
      refine Ok.ret ⟨Q2 ++ [u], ⟨by rw [g1.l]; simp [Qbq], ?_, ?_, by simp [g1.wl], fun j hj => ?_⟩, ?_, hD', hq', hcl' _ (by simp) (fun v hv h' => hv (by simp [h'])), hproc, ?_⟩
      ·exact List.nodup_append.2 ⟨g1.nd, by simp, fun a hma b hmb e => by simp only [List.mem_singleton] at hmb; exact hin (hmb ▸ e ▸ hma)⟩
      ·intro q' h'
       rcases List.mem_append.1 h' with h' | h'
       ·exact g1.lt q' h'
       ·simp at h'; subst h'; exact hu
      ·by_cases e : j = u
       ·subst e; simp [g1.wl, hj]
       ·simp only
        rw [List.getElem?_set_ne (Ne.symm e), g1.w j hj]; simp [e]
      ·simp [g2, Ne.symm huq]
      ·simp only [List.length_append, List.length_singleton]; omega
   ·rintro ⟨k, ws', ls'⟩ ⟨Q2, g1, g2, g3, g4, g5, g6, g7⟩
    refine ⟨Q2, g1, g3, fun v hv => ?_, g7⟩
    by_cases e : v = q
    ·subst e
     intro u w a b harc ha hb hlt
     simp only at ha hb g4 g6
     rw [g4] at ha; cases ha
     exact g6 u w b (by rw [List.take_length]; exact (hrm _).2 ⟨u, w, Z, harc⟩) hb
    ·exact g5 v hv e
 ·rintro ⟨o, ws, ls⟩ hsp
  exact Ok.ret hsp
end Go.Pw
/- -/
set_option maxHeartbeats 4000000
namespace Go.Pw
theorem QlR {n : Nat} {x : System} (h : WS n x) : Ok (Yv x) fun l => ∃ S : List Nat, l = Qbq S ∧ S.Nodup ∧ (∀ i ∈ S, i < n) ∧ ∀ i, i ∈ S ↔ Qhu x i := by
 have hn := h.n1
 unfold Yv
 refine Ok.bind (J5 (fun i l => ∃ S : List Nat, l = Qbq S ∧ S.Nodup ∧ (∀ j ∈ S, j < i) ∧ ∀ j, j ∈ S ↔ j < i ∧ x.Goals[j]? = some true) ?_ ?_ ?_)
 ·exact ⟨[], Z, List.Pairwise.nil, by simp, by simp⟩
 ·rintro i l hi ⟨S, rfl, h1, h2, h3⟩
  obtain ⟨g, hg⟩ := QH hi
  have hgl := h.g
  rw [Q6, hg]
  simp only [Option.bind_some]
  cases g with
  | true =>
   have hSl := nodup_short' h1 h2
   simp only [if_true, JM (show ((Qbq S).length + [(i : Int)].length) * 8 ≤ 140737488355328 by simp [Qbq]; omega), Option.bind_some]
   refine Ok.ret ⟨S ++ [i], by simp [Qbq, Qgh], ?_, ?_, fun j => ?_⟩
   ·exact List.nodup_append.2 ⟨h1, by simp, fun a ha b hb e => by simp only [List.mem_singleton] at hb; have := h2 a ha; omega⟩
   ·intro j hj
    rcases List.mem_append.1 hj with hj | hj
    ·have := h2 j hj; omega
    ·simp at hj; omega
   ·rw [List.mem_append, h3, List.mem_singleton]
    constructor
    ·rintro (⟨a, b⟩ | rfl)
     ·exact ⟨by omega, b⟩
     ·exact ⟨by omega, hg⟩
    ·rintro ⟨a, b⟩
     by_cases e : j = i
     ·exact .inr e
     ·exact .inl ⟨by omega, b⟩
  | false =>
   simp only [Bool.false_eq_true, if_false, Option.bind_some]
   refine Ok.ret ⟨S, Z, h1, fun j hj => by have := h2 j hj; omega, fun j => ?_⟩
   rw [h3]
   constructor
   ·rintro ⟨a, b⟩; exact ⟨by omega, b⟩
   ·rintro ⟨a, b⟩
    refine ⟨?_, b⟩
    by_cases e : j = i
    ·subst e; rw [hg] at b; cases b
    ·omega
 ·rintro l ⟨S, rfl, h1, h2, h3⟩
  refine Ok.ret ⟨S, Z, h1, fun i hi => by have := h2 i hi; have := h.g; omega, fun i => ?_⟩
  rw [h3]
  unfold Qhu
  constructor
  ·exact fun h => h.2
  ·exact fun h => ⟨(List.getElem?_eq_some_iff.1 h).1, h⟩
theorem SP.congr {A : Qhw} {s t : Nat → Prop} {n : Nat} {l : List Int} (h : SP A s n l) (e : ∀ i, s i ↔ t i) : SP A t n l := by
 have : s = t := funext fun i => propext (e i)
 subst this; exact h
theorem QjY {x : System} (hv : VSys x) : Ok (KE x) fun r => r.2 = none ∧ SP (Qax x true) (Qhu x) x.States.toNat r.1 := by
 unfold KE
 simp only [tV, Qcs.2 hv, Option.bind_some, Bool.not_true, Bool.false_eq_true, if_false]
 obtain ⟨l, hl, S, rfl, h1, h2, h3⟩ := QlR hv.ws
 refine Ok.step hl (Ok.bind ((QiH hv.ws true h1 h2).mono fun r hr => Ok.ret ⟨Z, hr.congr h3⟩))
end Go.Pw
/- -/
set_option maxHeartbeats 4000000
namespace Go.Pw
def Qlc (t : Task) : Prop := ∀ o ∈ t.Ops, ∀ e ∈ o.Effs, ∀ f ∈ e.When, f.Var = e.Var
def QfA (o : Op) : List Int → Nat
 | [] => 0
 | v :: l => Qie o v + QfA o l
theorem Qfl (o : Op) (l k : List Int) : QfA o (l ++ k) = QfA o l + QfA o k := by
 induction l with
 | nil => simp [QfA]
 | cons v l ih => simp only [List.cons_append, QfA, ih]; omega
theorem Qfk (o : Op) : ∀ {l : List Int}, l.Nodup → QfA o l = (o.Effs.filter fun e => decide (e.Var ∈ l)).length
 | [], _ => by rw [List.filter_eq_nil_iff.2 (by simp)]; rfl
 | v :: l, h => by
  obtain ⟨h1, h2⟩ := List.nodup_cons.1 h
  rw [QfA, Qfk o h2]
  unfold Qie
  induction o.Effs with
  | nil => simp
  | cons e r ih =>
   simp only [List.filter_cons, List.mem_cons]
   by_cases a : e.Var = v
   ·have b : e.Var ∉ l := by rw [a]; exact h1
    have b' : v ∉ l := h1
    simp only [a, b', true_or, decide_true, decide_false, if_true, Bool.false_eq_true, if_false, List.length_cons]
    simp only [List.mem_cons] at ih
    omega
   ·by_cases b : e.Var ∈ l
    ·simp only [a, b, false_or, decide_true, decide_false, if_true, Bool.false_eq_true, if_false, List.length_cons]
     simp only [List.mem_cons] at ih
     omega
    ·simp only [a, b, false_or, decide_false, Bool.false_eq_true, if_false]
     simp only [List.mem_cons] at ih
     exact ih
theorem QmG (o : Op) {l : List Int} (h : l.Nodup) : QfA o l ≤ o.Effs.length := by
 rw [Qfk o h]
 exact List.length_filter_le _ _
def QaH (t : Task) (L : List Int) : Int := K5 (L.map (Kq t.Vars))
theorem Qcb (t : Task) (L K : List Int) : QaH t (L ++ K) = QaH t L * QaH t K := by unfold QaH; rw [List.map_append, QbH]
theorem Qba (t : Task) (v : Int) : QaH t [v] = Kq t.Vars v := by simp [QaH, K5]
theorem QfR {t : Task} (ht : GoodT t) {L : List Int} (hL : ∀ w ∈ L, 0 ≤ w ∧ w < (t.Vars.length : Int)) : 1 ≤ QaH t L := by
 refine Qb4 fun x hx => ?_
 obtain ⟨w, hw, rfl⟩ := List.mem_map.1 hx
 exact (KH ht.v (hL w hw).1 (hL w hw).2).1
def Qfo (v : Int) (s : List Int) : Nat := (s[v.toNat]?.getD 0).toNat
structure CInv (t : Task) (L : List Int) (x : System) (F : List Int → Nat) : Prop where
 v : VSys x
 c : x.Costs = t.Ops.map fun o => o.Cost
 r : ∀ s, StateOK t.Vars s → F s < x.States.toNat
 d : ∀ s s', StateOK t.Vars s → StateOK t.Vars s' → (∀ w ∈ L, s[w.toNat]? = s'[w.toNat]?) → F s = F s'
 f : ∀ (s : List Int) (l : Nat) (o : Op), StateOK t.Vars s → t.Ops[l]? = some o → Kt o.Pre s → Qcq x (F s) l (F (JT o.Effs s))
 g : ∀ s, StateOK t.Vars s → (∀ q ∈ t.Goal, q.Var ∈ L → s[q.Var.toNat]? = some q.Val) → x.Goals[F s]? = some true
 b : ∀ (l : Nat) (o : Op), t.Ops[l]? = some o → EB (JH x l).length (QfA o L) (QaH t L).toNat
 n : x.States ≤ QaH t L
structure CEx (t : Task) (L : List Int) (x : System) (F : List Int → Nat) : Prop where
 bw : ∀ (s : List Int) (l : Nat) (o : Op) (c : Nat), StateOK t.Vars s → t.Ops[l]? = some o → Qcq x (F s) l c → ∃ s', StateOK t.Vars s' ∧ F s' = c ∧ ∀ w ∈ L, ∀ a b, s[w.toNat]? = some a → s'[w.toNat]? = some b → TB t o w a b
 gl : ∀ s, StateOK t.Vars s → x.Goals[F s]? = some true → ∀ q ∈ t.Goal, q.Var ∈ L → s[q.Var.toNat]? = some q.Val
section
variable {t : Task} {x y z : System} {F G : List Int → Nat} {L : List Int}
theorem QfL {t : Task} (ht : GoodT t) {l : Nat} {o : Op} (ho : t.Ops[l]? = some o) {s : List Int} (hs : StateOK t.Vars s) : StateOK t.Vars (JT o.Effs s) :=
 QbA hs fun e he => ((ht.op o (List.mem_of_getElem? ho)).eff e he).2
theorem QcA {v : Int} {s : List Int} (hs : StateOK t.Vars s) (h0 : 0 ≤ v) (h1 : v < (t.Vars.length : Int)) : s[v.toNat]? = some (Qfo v s : Int) ∧ (Qfo v s : Int) < Kq t.Vars v := by
 obtain ⟨a, ha, ha0, ha1⟩ := hs.at h0 h1
 unfold Qfo
 rw [ha]
 simp only [Option.getD_some]
 rw [Int.toNat_of_nonneg ha0]
 exact ⟨Z, ha1⟩
theorem QeQ (ht : SmallT t) {v : Int} (h0 : 0 ≤ v) (h1 : v < (t.Vars.length : Int)) (hx : AtomRes t v x) : CInv t [v] x (Qfo v) ∧ CEx t [v] x (Qfo v) := by
 have hd := KH ht.g.v h0 h1
 refine ⟨⟨hx.vsys ht.g h0 h1, hx.c, fun s hs => ?_, fun s s' hs hs' h => ?_, fun s l o hs ho hp => ?_, fun s hs h => ?_, fun l o ho => ?_, by rw [Qba, hx.s]; exact Int.le_refl _⟩, ⟨fun s l o c hs ho he => ?_, fun s hs h q hq hv => ?_⟩⟩
 ·have := (QcA hs h0 h1).2
  have := hx.s
  omega
 ·unfold Qfo; rw [h v (by simp)]
 ·have hop := ht.g.op o (List.mem_of_getElem? ho)
  have hat := QeS hs h0 h1 (effs := o.Effs) fun e he => (hop.eff e he).2
  have h2 := QcA (QfL ht.g ho hs) h0 h1
  rw [hat] at h2
  exact (hx.mem _).2 ⟨l, o, ho, Z, s, hs, (QcA hs h0 h1).1, hp, (Zu h2.1).symm⟩
 ·obtain ⟨a1, a2⟩ := QcA hs h0 h1
  obtain ⟨b, hb, hb2⟩ := hx.g (Qfo v s) a2
  rw [hb, hb2.2]
  intro q hq hv
  have := h q hq (by simp [hv])
  rw [hv, a1] at this
  exact (Zu this).symm
 ·have := QmM ht.g h0 h1 hx ho (ht.ne o (List.mem_of_getElem? ho))
  simpa [QfA, Qba] using this
 ·obtain ⟨i, o', ho', hl, σ, s1, s2, s3, s4⟩ := (hx.mem _).1 he
  simp only at hl s2 s4
  obtain rfl : l = i := by omega
  rw [ho] at ho'; cases ho'
  have hat := QeS s1 h0 h1 (effs := o.Effs) fun e he => ((ht.g.op o (List.mem_of_getElem? ho)).eff e he).2
  refine ⟨JT o.Effs σ, QfL ht.g ho s1, ?_, ?_⟩
  ·unfold Qfo; rw [hat, ← s4]; simp
  ·intro w hw a b ha hb
   simp only [List.mem_singleton] at hw
   subst hw
   rw [(QcA hs h0 h1).1] at ha
   cases ha
   rw [hat] at hb
   exact ⟨σ, s1, s2, s3, (Zu hb).symm⟩
 ·obtain ⟨a1, a2⟩ := QcA hs h0 h1
  obtain ⟨b, hb, hb2⟩ := hx.g (Qfo v s) a2
  rw [hb] at h
  have hv' : q.Var = v := by simpa using hv
  have := hb2.1 (Zu h) q hq hv'
  rw [hv', a1, this]
theorem CInv.le (h : CInv t L x F) (K : List Int) (hK : L = K) : CInv t K x F := hK ▸ h
theorem QhR (hv : VSys x) {i : Nat} (h : x.Goals[i]? = some true) : i < x.States.toNat := by
 have := (List.getElem?_eq_some_iff.1 h).1
 have := hv.g
 omega
theorem QkI (h : CInv t L x F) {c : List Int} {K : Nat} (hK : KOK c x.States.toNat K) (hq : QRes x c K y) : CInv t L y (fun s => cN c (F s)) := by
 have hc := hK.clsOf
 have hv := h.v
 refine ⟨hq.v hv hK, by rw [hq.cs, h.c], fun s hs => ?_, fun s s' hs hs' he => by simp only [h.d s s' hs hs' he], fun s l o hs ho hp => ?_, fun s hs hg => ?_, fun l o ho => ?_, ?_⟩
 ·have := (hc.get (h.r s hs)).2
  have := hq.s
  omega
 ·exact (hq.edge hv).2 ⟨_, _, h.f s l o hs ho hp, Z, Z⟩
 ·have h1 := hc.get (h.r s hs)
  rw [hq.g _ h1.2, KV.2 ⟨F s, h1.1, h.g s hs hg⟩]
 ·refine (h.b l o ho).le ?_
  have := QaU (C := JH y l) (M := (JH x l).map (Qhs c)) (List.Pairwise.filter _ (Srt.nodup hq.o)) fun d hd => ?_
  ·simpa using this
  ·obtain ⟨h1, h2⟩ := KM.1 hd
   obtain ⟨e, he, rfl⟩ := (hq.e d).1 h1
   exact List.mem_map.2 ⟨e, KM.2 ⟨he, h2⟩, Z⟩
 ·have := hK.le
  have := hq.s
  have := h.n
  have := hv.s1
  omega
theorem Qme (h : CInv t L x F) (hx : CEx t L x F) {c : List Int} {K : Nat} (hK : KOK c x.States.toNat K) (hq : QRes x c K y) (hb : IsBis (QaI x h.v) c) : CEx t L y (fun s => cN c (F s)) := by
 have hc := hK.clsOf
 have hv := h.v
 refine ⟨fun s l o k hs ho he => ?_, fun s hs hg => ?_⟩
 ·obtain ⟨i, u, h1, h2, h3⟩ := (hq.edge hv).1 he
  have hr := (QaI x hv).rng i l u h1
  have hi : i < x.States.toNat := hr.1
  have heq : eqL c i (F s) := (QgW hc hi (h.r s hs)).1 h2
  obtain ⟨u', e1, e2⟩ := (hb.1.sig i (F s) hi (h.r s hs) heq).1 l u h1
  obtain ⟨s', g1, g2, g3⟩ := hx.bw s l o u' hs ho e1
  refine ⟨s', g1, ?_, g3⟩
  have hr' := (QaI x hv).rng (F s) l u' e1
  show cN c (F s') = k
  rw [g2, ← h3]
  exact (QgW hc hr'.2 hr.2).2 (Eq.symm e2)
 ·have h1 := hc.get (h.r s hs)
  rw [hq.g _ h1.2] at hg
  obtain ⟨i, hi, hgi⟩ := KV.1 (Zu hg)
  have hil := QhR hv hgi
  have heq : eqL c i (F s) := by unfold eqL; rw [hi, h1.1]
  have hgg := hb.1.goal i (F s) hil (h.r s hs) heq
  have hgg' : x.Goals[i]?.getD false = x.Goals[F s]?.getD false := hgg
  rw [hgi] at hgg'
  have : x.Goals[F s]? = some true := by
   cases e : x.Goals[F s]? with
   | none => rw [e] at hgg'; cases hgg'
   | some b => rw [e] at hgg'; simp at hgg'; rw [hgg']
  exact hx.gl s hs this
theorem Qlr (n : Nat) (l u v u' v' : Nat) (y : System) (hn : y.States = (n : Int)) : mkE y.States (l : Int) (⟨(u : Int), (l : Int), (v : Int)⟩ : Edge) (⟨(u' : Int), (l : Int), (v' : Int)⟩ : Edge) = ⟨((u * n + u' : Nat) : Int), (l : Int), ((v * n + v' : Nat) : Int)⟩ := by
 unfold mkE
 rw [hn]
 simp
theorem Qhf (hx : VSys x) (hy : VSys y) (hz : ProdRes x y z) {i l k : Nat} : Qcq z i l k ↔ ∃ u v u' v', Qcq x u l v ∧ Qcq y u' l v' ∧ i = u * y.States.toNat + u' ∧ k = v * y.States.toNat + v' := by
 have hn : y.States = (y.States.toNat : Int) := by have := hy.s1; omega
 unfold Qcq
 rw [hz.e]
 constructor
 ·rintro ⟨e, he, f, hf, hl, h⟩
  obtain ⟨u, l1, v, rfl, _, _, _⟩ := Qbc hx he
  obtain ⟨u', l2, v', rfl, _, _, _⟩ := Qbc hy hf
  simp only at hl h
  obtain rfl : l1 = l2 := by omega
  rw [Qlr _ l1 u v u' v' y hn] at h
  simp only [Edge.mk.injEq] at h
  obtain rfl : l = l1 := by omega
  exact ⟨u, v, u', v', he, hf, by omega, by omega⟩
 ·rintro ⟨u, v, u', v', he, hf, rfl, rfl⟩
  exact ⟨_, he, _, hf, Z, by rw [Qlr _ l u v u' v' y hn]⟩
theorem Qhe (hx : VSys x) (hy : VSys y) (hz : ProdRes x y z) {i k : Nat} (hi : i < x.States.toNat) (hk : k < y.States.toNat) : z.Goals[i * y.States.toNat + k]? = some true ↔ x.Goals[i]? = some true ∧ y.Goals[k]? = some true := by
 have h1 := hx.g
 have h2 := hy.g
 obtain ⟨a, ha⟩ := QH (xs := x.Goals) (i := i) (by omega)
 obtain ⟨b, hb⟩ := QH (xs := y.Goals) (i := k) (by omega)
 have hl : y.Goals.length = y.States.toNat := by omega
 rw [hz.g]
 unfold QfJ
 have := Qd3 (f := fun g => y.Goals.map fun h => g && h) (m := y.States.toNat) (xs := x.Goals) (by simp [hl]) ha (y := k) (z := a && b) (by rw [List.getElem?_map, hb]; rfl)
 rw [this, ha, hb]
 simp
theorem Qm6 {a b m n : Nat} (ha : a < m) (hb : b < n) : a * n + b < m * n := by
 have : (a + 1) * n ≤ m * n := Nat.mul_le_mul_right _ ha
 rw [Nat.succ_mul] at this
 omega
theorem QlC {a b c d n : Nat} (hb : b < n) (hd : d < n) (h : a * n + b = c * n + d) : a = c ∧ b = d := by
 have := QhF (n := (n : Int)) (x := (a : Int)) (y := (b : Int)) (x' := (c : Int)) (y' := (d : Int)) (by omega) (by omega) (by omega) (by omega) (by exact_mod_cast h)
 omega
theorem QkJ (ht : SmallT t) (hL : ∀ w ∈ L, 0 ≤ w ∧ w < (t.Vars.length : Int)) {v : Int} (h0 : 0 ≤ v) (h1 : v < (t.Vars.length : Int)) (hx : CInv t L x F) (hy : CInv t [v] y G) (hz : ProdRes x y z) (hs : x.States * y.States ≤ 4096) (hl : z.Edges.length ≤ 65536) : CInv t (L ++ [v]) z (fun s => F s * y.States.toNat + G s) := by
 have hxs := hx.v.s1
 have hys := hy.v.s1
 have hc : x.Costs = y.Costs := by rw [hx.c, hy.c]
 have hst : z.States.toNat = x.States.toNat * y.States.toNat := by rw [hz.s, Int.toNat_mul (by omega) (by omega)]
 have hp1 := QfR ht.g hL
 have hd := KH ht.g.v h0 h1
 have hp2 : QaH t [v] = Kq t.Vars v := Qba t v
 refine ⟨hz.v hx.v hy.v hc hs hl, by rw [hz.c, hx.c], fun s hs => ?_, fun s s' hs hs' he => ?_, fun s l o hs ho hp => ?_, fun s hs hg => ?_, fun l o ho => ?_, ?_⟩
 ·rw [hst]
  exact Qm6 (hx.r s hs) (hy.r s hs)
 ·have e1 := hx.d s s' hs hs' fun w hw => he w (by simp [hw])
  have e2 := hy.d s s' hs hs' fun w hw => he w (by simp at hw; simp [hw])
  simp only [e1, e2]
 ·exact (Qhf hx.v hy.v hz).2 ⟨_, _, _, _, hx.f s l o hs ho hp, hy.f s l o hs ho hp, Z, Z⟩
 ·exact (Qhe hx.v hy.v hz (hx.r s hs) (hy.r s hs)).2 ⟨hx.g s hs fun q hq hm => hg q hq (by simp [hm]), hy.g s hs fun q hq hm => hg q hq (by simp at hm; simp [hm])⟩
 ·have := ((hx.b l o ho).mul (hy.b l o ho)).le (Qku hz hx.v hy.v l)
  rw [Qfl, Qcb, Int.toNat_mul (by omega) (by omega)]
  exact this
 ·rw [hz.s, Qcb]
  exact Int.mul_le_mul hx.n hy.n (by omega) (by omega)
theorem Qmf (ht : SmallT t) (hL : ∀ w ∈ L, 0 ≤ w ∧ w < (t.Vars.length : Int)) {v : Int} (h0 : 0 ≤ v) (h1 : v < (t.Vars.length : Int)) (hvL : v ∉ L) (hx : CInv t L x F) (hy : CInv t [v] y G) (hz : ProdRes x y z) (ex : CEx t L x F) (ey : CEx t [v] y G) : CEx t (L ++ [v]) z (fun s => F s * y.States.toNat + G s) := by
 refine ⟨fun s l o c hs ho he => ?_, fun s hs hg q hq hm => ?_⟩
 ·obtain ⟨u, k, u', k', e1, e2, e3, rfl⟩ := (Qhf hx.v hy.v hz).1 he
  have hu' := ((QaI y hy.v).rng u' l k' e2).1
  obtain ⟨rfl, rfl⟩ := QlC (hy.r s hs) hu' e3
  obtain ⟨s1, p1, p2, p3⟩ := ex.bw s l o k hs ho e1
  obtain ⟨s2, q1, q2, q3⟩ := ey.bw s l o k' hs ho e2
  obtain ⟨b, hb, hb0, hb1⟩ := q1.at h0 h1
  have hok : StateOK t.Vars (s1.set v.toNat b) := p1.set hb0 hb1
  have hlen := p1.len
  have hset : (s1.set v.toNat b)[v.toNat]? = some b := by rw [List.getElem?_set_self (by omega)]
  have hoth : ∀ w ∈ L, (s1.set v.toNat b)[w.toNat]? = s1[w.toNat]? := by
   intro w hw
   rw [List.getElem?_set_ne]
   intro e
   have := hL w hw
   exact hvL ((show v = w by omega) ▸ hw)
  have eF : F (s1.set v.toNat b) = k := by rw [hx.d _ s1 hok p1 hoth, p2]
  have eG : G (s1.set v.toNat b) = k' := by
   rw [hy.d _ s2 hok q1 (by intro w hw; simp only [List.mem_singleton] at hw; subst hw; rw [hset, hb]), q2]
  refine ⟨s1.set v.toNat b, hok, by simp only [eF, eG], fun w hw a b' ha hb' => ?_⟩
  rcases List.mem_append.1 hw with hw | hw
  ·rw [hoth w hw] at hb'
   exact p3 w hw a b' ha hb'
  ·simp only [List.mem_singleton] at hw
   subst hw
   rw [hset] at hb'
   cases hb'
   exact q3 w (by simp) a b ha hb
 ·obtain ⟨g1, g2⟩ := (Qhe hx.v hy.v hz (hx.r s hs) (hy.r s hs)).1 hg
  rcases List.mem_append.1 hm with hm | hm
  ·exact ex.gl s hs g1 q hq hm
  ·exact ey.gl s hs g2 q hq hm
/-! ### distances -/
theorem Qky (ht : SmallT t) (hx : CInv t L x F) {i : Nat} {c : Int} (h : Reach (BA t) (QdQ t) i c) : ∀ s, StateOK t.Vars s → rk t.Vars s = (i : Int) → Reach (Qax x true) (Qhu x) (F s) c := by
 have hv1 : ∀ n ∈ t.Vars, 1 ≤ n := fun n hn => (ht.g.v n hn).1
 induction h with
 | base hs =>
  intro s hsok hr
  obtain ⟨s', hs', h1, h2⟩ := hs
  have := Qh0 hv1 hs' hsok (by rw [h1, hr])
  subst this
  exact .base (hx.g s' hsok fun q hq _ => h2 q hq)
 | step _ ha ih =>
  intro s hsok hr
  obtain ⟨s', l, o, hs', ho, hp, rfl, h1, h2⟩ := ha
  have := Qh0 hv1 hs' hsok (by rw [h2, hr])
  subst this
  refine .step (ih _ (QfL ht.g ho hs') h1) ⟨_, hx.f s' l o hs' ho hp, l, Z, ?_, ?_⟩
  ·rw [hx.c, List.getElem?_map, ho]; rfl
  ·simp
theorem QlE (ht : SmallT t) (hown : Qlc t) {l : Nat} {o : Op} (ho : t.Ops[l]? = some o) {s s' : List Int} (hs : StateOK t.Vars s) (hs' : StateOK t.Vars s') (hst : ∀ w : Nat, w < t.Vars.length → ∀ a b, s[w]? = some a → s'[w]? = some b → TB t o (w : Int) a b) : Kt o.Pre s ∧ JT o.Effs s = s' := by
 have hom := List.mem_of_getElem? ho
 have hop := ht.g.op o hom
 have haok := QfL ht.g ho hs
 constructor
 ·intro f hf
  have hr := hop.pre.r f hf
  obtain ⟨a, ha, _⟩ := hs.at hr.1 hr.2.1
  obtain ⟨b, hb, _⟩ := hs'.at hr.1 hr.2.1
  obtain ⟨σ, s1, s2, s3, _⟩ := hst f.Var.toNat (by have := hr.1; have := hr.2.1; omega) a b ha hb
  have := s3 f hf
  rw [Int.toNat_natCast] at s2
  rw [s2] at this
  rw [ha, this]
 ·apply List.ext_getElem?
  intro w
  by_cases hw : w < t.Vars.length
  ·have hat := QeS hs (v := (w : Int)) (by omega) (by omega) (effs := o.Effs) fun e he => (hop.eff e he).2
   rw [Int.toNat_natCast] at hat
   obtain ⟨a, ha⟩ := QH (xs := s) (i := w) (by rw [hs.len]; exact hw)
   obtain ⟨b, hb⟩ := QH (xs := s') (i := w) (by rw [hs'.len]; exact hw)
   obtain ⟨σ, s1, s2, s3, s4⟩ := hst w hw a b ha hb
   rw [Int.toNat_natCast] at s2
   rw [hat, hb, s4]
   congr 1
   refine Qgq (by rw [Int.toNat_natCast, ha, s2]) fun e he hev => ?_
   have hsame : ∀ f ∈ e.When, s[f.Var.toNat]? = σ[f.Var.toNat]? := by
    intro f hf
    rw [hown o hom e he f hf, hev, Int.toNat_natCast, ha, s2]
   constructor
   ·intro h f hf; rw [← hsame f hf]; exact h f hf
   ·intro h f hf; rw [hsame f hf]; exact h f hf
  ·rw [List.getElem?_eq_none (by rw [haok.len]; omega), List.getElem?_eq_none (by rw [hs'.len]; omega)]
theorem Qjw (ht : SmallT t) (hown : Qlc t) (hall : ∀ w : Nat, w < t.Vars.length → (w : Int) ∈ L) (hx : CInv t L x F) (ex : CEx t L x F) {i : Nat} {c : Int} (h : Reach (Qax x true) (Qhu x) i c) : ∀ s, StateOK t.Vars s → F s = i → ∀ j : Nat, rk t.Vars s = (j : Int) → Reach (BA t) (QdQ t) j c := by
 have hv1 : ∀ n ∈ t.Vars, 1 ≤ n := fun n hn => (ht.g.v n hn).1
 induction h with
 | base hs =>
  rintro s hsok rfl j hj
  refine .base ⟨s, hsok, hj, fun q hq => ?_⟩
  have hr := ht.g.goal.r q hq
  have := hall q.Var.toNat (by have := hr.1; have := hr.2.1; omega)
  rw [Int.toNat_of_nonneg hr.1] at this
  exact ex.gl s hsok hs q hq this
 | @step v u c w _ ha ih =>
  rintro s hsok rfl j hj
  obtain ⟨d, hd, l, hl, hc, h2⟩ := ha
  simp only [if_true] at h2
  rw [hx.c, List.getElem?_map] at hc
  obtain ⟨o, ho, rfl⟩ := Option.map_eq_some_iff.1 hc
  have he : Qcq x (F s) l v := by
   unfold Qcq
   rw [← h2.1, ← h2.2, ← hl]
   exact hd
  obtain ⟨s', g1, g2, g3⟩ := ex.bw s l o v hsok ho he
  obtain ⟨p1, p2⟩ := QlE ht hown ho hsok g1 fun w hw a b ha hb => g3 (w : Int) (hall w hw) a b (by rw [Int.toNat_natCast]; exact ha) (by rw [Int.toNat_natCast]; exact hb)
  have hr := Qeg hv1 g1
  refine .step (ih s' g1 g2 (rk t.Vars s').toNat (by omega)) ⟨s, l, o, hsok, ho, p1, Z, by rw [p2]; omega, hj⟩
theorem QlZ (ht : SmallT t) (hx : CInv t L x F) {d k : List Int} (hd : SP (Qax x true) (Qhu x) x.States.toNat d) (hk : SP (BA t) (QdQ t) (K5 t.Vars).toNat k) {s : List Int} (hs : StateOK t.Vars s) :
  ∃ a b, d[F s]? = some a ∧ k[(rk t.Vars s).toNat]? = some b ∧ 0 ≤ a ∧ a ≤ b ∧ (Qlc t → (∀ w : Nat, w < t.Vars.length → (w : Int) ∈ L) → CEx t L x F → a = b) := by
 have hv1 : ∀ n ∈ t.Vars, 1 ≤ n := fun n hn => (ht.g.v n hn).1
 have hr := Qeg hv1 hs
 obtain ⟨a, ha⟩ := QH (xs := d) (i := F s) (by rw [hd.len]; exact hx.r s hs)
 obtain ⟨b, hb⟩ := QH (xs := k) (i := (rk t.Vars s).toNat) (by rw [hk.len]; omega)
 have ra := hd.rng _ a ha
 have rb := hk.rng _ b hb
 have hAx : AOK (Qax x true) (Qhu x) x.States.toNat := hx.v.ws.aok true fun i hi => by
  have := (List.getElem?_eq_some_iff.1 hi).1
  have := hx.v.g
  omega
 have hle : a ≤ b := by
  by_cases hlt : b < Inf
  ·obtain ⟨z, hz, hzl⟩ := hd.le hAx (Qky ht hx (hk.re _ b hb hlt) s hs (by omega)) hlt
   rw [ha] at hz; cases hz; exact hzl
  ·omega
 refine ⟨a, b, ha, hb, ra.1, hle, fun hown hall ex => ?_⟩
 have hge : b ≤ a := by
  by_cases hlt : a < Inf
  ·obtain ⟨z, hz, hzl⟩ := hk.le (Qjn ht) (Qjw ht hown hall hx ex (hd.re _ a ha hlt) s hs rfl (rk t.Vars s).toNat (by omega)) hlt
   rw [hb] at hz; cases hz; exact hzl
  ·omega
 omega
end
end Go.Pw
/- -/
set_option maxHeartbeats 4000000
namespace Go.Pw
def idL (n : Nat) : List Int := (List.range n).map fun (i : Nat) => (i : Int)
theorem Qel (n : Nat) : (idL n).length = n := by simp [idL]
theorem QhH {n i : Nat} (h : i < n) : (idL n)[i]? = some (i : Int) := by simp [idL, h]
theorem Qh9 {n : Nat} (h : n ≤ 1000000) : Kz (n : Int) = some (idL n) := by
 refine QbW ?_
 unfold Kz
 rw [QaK (by omega) (by omega)]
 simp only [Option.bind_some]
 refine Ok.bind (J5 (fun j (l : List Int) => l.length = n ∧ ∀ i, i < j → l[i]? = some (i : Int)) ⟨by simp, fun i hi => absurd hi (Nat.not_lt_zero i)⟩ ?_ ?_)
 ·rintro j l hj ⟨h1, h2⟩
  rw [List.length_replicate] at hj
  obtain ⟨y, hy⟩ := QH (xs := l) (i := j) (by omega)
  simp only [Q6, hy, Option.bind_some]
  rw [JB (by omega)]
  refine Ok.ret ⟨by simp [h1], fun i hi => ?_⟩
  by_cases e : i = j
  ·subst e; rw [List.getElem?_set_self (by omega)]
  ·rw [List.getElem?_set_ne (Ne.symm e)]; exact h2 i (by omega)
 ·rintro l ⟨h1, h2⟩
  rw [List.length_replicate] at h2
  refine Ok.ret ?_
  apply List.ext_getElem?
  intro i
  by_cases hi : i < n
  ·rw [h2 i hi, QhH hi]
  ·rw [List.getElem?_eq_none (by omega), List.getElem?_eq_none (by rw [Qel]; omega)]
theorem Qm5 {x : System} {c : List Int} {K : Nat} (hK : 2 ≤ K) (hK2 : K ≤ 4000000) : ∃ i k, PickOr (QaM x c) K i k := by
 obtain ⟨r, _, i, k, _, h⟩ := QjS (goals := (List.range K).map (QaM x c)) (g := QaM x c) (by simp) (fun b hb => by simp [hb]) hK hK2
 exact ⟨i, k, h⟩
theorem Qlx {x : System} {n : Nat} (hn : n ≤ 4000000) : ∀ (j : Nat) {c : List Int} {K : Nat}, KOK c n K → j + 1 ≤ K → KOK (itM x j c K) n (K - j)
 | 0, c, K, h, _ => h
 | j + 1, c, K, h, hj => by
  have hle := h.le
  obtain ⟨i, k, hp⟩ := Qm5 (x := x) (c := c) (K := K) (by omega) (by omega)
  have hl := hp.lt (by omega)
  have h1 : KOK (QjG x c K) n (K - 1) := by
   unfold QjG
   rw [Qnc hp]
   exact h.join hl.1 hl.2
  have := Qlx (x := x) hn j h1 (by omega)
  have e : K - 1 - j = K - (j + 1) := by omega
  rw [e] at this
  exact this
theorem Qhp {c : List Int} {n K : Nat} (h : KOK c n K) (hn : 0 < n) (hn2 : n ≤ 4000000) : J1 c = some (K : Int) := by
 unfold J1
 have := h.le
 rw [Qls h hn hn2]
 simp only [Option.bind_some]
 rw [Jo (by omega) (by omega)]
 congr 1; omega
section
variable {t : Task} {x : System} {F : List Int → Nat} {L : List Int}
structure SmRes (t : Task) (L : List Int) (x : System) (F : List Int → Nat) (ex : Bool) (most : Int) (c : List Int) (y : System) (ex' : Bool) (G : List Int → Nat) : Prop where
 i : CInv t L y G
 g : ∀ s, StateOK t.Vars s → Jc c (F s : Int) = some (G s : Int)
 e : ex' = true → ex = true
 xx : CEx t L x F → ex' = true → CEx t L y G
 m : y.States ≤ max 1 most
 s : y.States ≤ x.States
 n : x.States ≤ most → y = x ∧ ex' = ex ∧ c = idL x.States.toNat
theorem QeL (h : CInv t L x F) (hs : x.States ≤ 100) (hl : x.Costs.length ≤ 100) (a : mergeshrink_Abstraction) (most : Int) :
  Ok (Jk a x most) fun r => r.2.1 = none ∧ ∃ G, SmRes t L x F a.exact most r.1 r.2.2.1 r.2.2.2 G := by
 have hv := h.v
 have s1 := hv.s1
 unfold Jk
 by_cases hle : x.States ≤ most
 ·simp only [hle, decide_true, if_true]
  obtain ⟨n, hn⟩ : ∃ n : Nat, x.States = (n : Int) := ⟨x.States.toNat, by omega⟩
  rw [hn, Qh9 (by omega)]
  simp only [Option.bind_some]
  refine Ok.ret ⟨Z, F, h, fun s hs => ?_, id, fun h _ => h, (by simp only; omega), Int.le_refl _, fun _ => ⟨Z, Z, ?_⟩⟩
  ·have := h.r s hs
   rw [Q6, QhH (by omega)]
  ·rw [hn]; simp
 ·simp only [hle, decide_false, Bool.false_eq_true, if_false]
  refine Ok.bind ((QlI hv hs hl most).mono ?_)
  rintro ⟨c, e⟩ ⟨h1, c0, hb, hc⟩
  simp only at h1 hc
  subst h1
  simp only [J2, Option.isSome_none, Bool.false_eq_true, if_false]
  refine Ok.bind ((QiA hv hs hl).mono ?_)
  rintro ⟨c1, e1⟩ ⟨h2, hb1⟩
  simp only at h2 hb1
  subst h2
  obtain rfl := hb.uniq hb1
  have hk0 : KOK c0 x.States.toNat (rnk (eqL c0) x.States.toNat) := hb.kok
  generalize rnk (eqL c0) x.States.toNat = K0 at hk0 hc
  obtain ⟨m, hm, hm1⟩ := Qi3 most
  rw [hm, show ((m : Int)).toNat = m by omega] at hc
  have hK1 : 1 ≤ K0 := by obtain ⟨k, h, _⟩ := hk0.rng 0 (by omega); omega
  have hkc := Qlx (x := x) (by omega) (K0 - m) hk0 (by omega)
  rw [← hc] at hkc
  have hle0 := hk0.le
  simp only [J2, Option.isSome_none, Bool.false_eq_true, if_false]
  have hz : ∃ z, (if a.exact = true then ((J1 c).bind fun y105 => (J1 c0).bind fun y106 => some (decide (y105 = y106))) else some false) = some z ∧ (z = true → a.exact = true ∧ K0 - m = 0) := by
   by_cases hx : a.exact = true
   ·rw [if_pos hx, Qhp hkc (by omega) (by omega), Qhp hk0 (by omega) (by omega)]
    refine ⟨_, Z, fun hd => ⟨hx, ?_⟩⟩
    simp only [decide_eq_true_eq] at hd
    omega
   ·rw [if_neg hx]
    exact ⟨_, Z, fun h => by cases h⟩
  obtain ⟨z, hz1, hz2⟩ := hz
  rw [hz1]
  simp only [Option.bind_some]
  refine Ok.bind ((Qm4 hv hkc).mono ?_)
  rintro ⟨e, y⟩ ⟨h3, hq⟩
  simp only at h3 hq
  subst h3
  have hcl := hkc.clsOf
  have hys := hq.s
  refine Ok.ret ⟨Z, _, QkI h hkc hq, fun s hs => ?_, fun hz => (hz2 hz).1, fun hx hz => ?_, ?_, ?_, fun h => absurd h hle⟩
  ·rw [Q6]; exact (hcl.get (h.r s hs)).1
  ·have h0 := (hz2 hz).2
   rw [h0] at hc
   simp only [itM] at hc
   subst hc
   exact Qme h hx hkc hq hb
  ·simp only; omega
  ·simp only; omega
end
end Go.Pw
/- -/
set_option maxHeartbeats 4000000
namespace Go.Pw
theorem Qm2 {n : Int} (h0 : 1 ≤ n) (h1 : n ≤ 4096) : Ok (KQ n) fun r => 1 ≤ r ∧ r * r ≤ n := by
 unfold KQ
 refine YZ (fun r => 0 ≤ r ∧ r ≤ 64 ∧ r * r ≤ n) (fun r => 1 ≤ r ∧ r * r ≤ n) (fun _ => False) (fun r => (64 - r).toNat) ⟨by omega, by omega, by omega⟩ ?_ (fun _ h => h.elim) (fun s h => Ok.ret h)
 rintro r ⟨a, b, c⟩
 have hb : (r + 1) * (r + 1) ≤ 65 * 65 := Int.mul_le_mul (by omega) (by omega) (by omega) (by omega)
 have hp : 0 ≤ (r + 1) * (r + 1) := Int.mul_nonneg (by omega) (by omega)
 have w1 : IntKind.i64.wrap (r + 1) = r + 1 := Jo (by omega) (by omega)
 rw [w1, Jo (by omega) (by omega)]
 by_cases hl : (r + 1) * (r + 1) ≤ n
 ·simp only [hl, decide_true, if_true]
  have hr : r + 1 ≤ 64 := by
   rcases Int.lt_or_le (r + 1) 65 with h | h
   ·omega
   ·have : 65 * 65 ≤ (r + 1) * (r + 1) := Int.mul_le_mul h h (by omega) (by omega)
    omega
  exact ⟨_, Z, fun s' e => by cases e; exact ⟨⟨by omega, by omega, hl⟩, by omega⟩, fun s' e => (by cases e), fun r e => (by cases e)⟩
 ·simp only [hl, decide_false, Bool.false_eq_true, if_false]
  refine ⟨_, Z, fun s' e => (by cases e), fun s' e => ?_, fun r e => (by cases e)⟩
  cases e
  refine ⟨?_, c⟩
  rcases Int.lt_or_le 0 r with h | h
  ·omega
  ·have : r = 0 := by omega
   subst this
   omega
def stV (s : List Int) (i : Nat) (st : mergeshrink_stage) (a : Int) : Option Int :=
 (Jc s st.variable_).bind fun x => (Jc st.class_ x).bind fun c =>
 if decide ((i : Int) = 0) then some c else (Jc st.after a).bind fun b => some (IntKind.i64.wrap ((IntKind.i64.wrap (b * st.states)) + c))
def vf (s : List Int) : Nat → List mergeshrink_stage → Int → Option Int
 | _, [], a => some a
 | i, st :: l, a => (stV s i st a).bind (vf s (i + 1) l)
theorem Qf2 (s : List Int) (st : mergeshrink_stage) : ∀ (l : List mergeshrink_stage) (i : Nat) (a : Int), vf s i (l ++ [st]) a = (vf s i l a).bind (stV s (i + l.length) st)
 | [], i, a => by
  simp only [List.nil_append, vf, List.length_nil, Nat.add_zero, Option.bind_some]
  cases stV s i st a <;> rfl
 | u :: l, i, a => by
  simp only [List.cons_append, vf, List.length_cons]
  cases stV s i u a with
  | none => rfl
  | some b => simp only [Option.bind_some]; rw [Qf2 s st l (i + 1) b, show i + 1 + l.length = i + (l.length + 1) by omega]
def VOK (t : Task) (zs : List mergeshrink_stage) (F : List Int → Nat) : Prop := ∀ s, StateOK t.Vars s → vf s 0 zs 0 = some (F s : Int)
theorem Qiq {a : mergeshrink_Abstraction} {s : List Int} {k : Nat} {d : Int} (hs : StateOK a.vars s) (hv : vf s 0 a.stages 0 = some (k : Int)) (hd : a.distance[k]? = some d) : Q1 a s = some d := by
 classical
 have hp : Yy a.vars s = some (decide (StateOK a.vars s)) := QfN a.vars s
 refine QbW ?_
 unfold Q1
 rw [hp]
 simp only [hs, decide_true, Option.bind_some, Bool.not_true, Bool.false_eq_true, if_false]
 refine Ok.bind (J5 (fun i (b : Int) => vf s 0 (a.stages.take i) 0 = some b) Z ?_ ?_)
 ·intro i b hi h
  obtain ⟨st, hst⟩ := QH (xs := a.stages) (i := i) hi
  have hsn := Jg hst
  have hall : a.stages = a.stages.take (i + 1) ++ a.stages.drop (i + 1) := (List.take_append_drop _ _).symm
  have hstep : ∃ y, stV s i st b = some y := by
   have h2 : vf s 0 (a.stages.take (i + 1)) 0 ≠ none := by
    intro hno
    have : ∀ (l k : List mergeshrink_stage) (j : Nat) (b : Int), vf s j l b = none → vf s j (l ++ k) b = none := by
     intro l
     induction l with
     | nil => intro k j b h; simp [vf] at h
     | cons u l ih =>
      intro k j b h
      simp only [List.cons_append, vf] at h ⊢
      cases hu : stV s j u b with
      | none => rfl
      | some y => rw [hu] at h; simp only [Option.bind_some] at h ⊢; exact ih k (j + 1) y h
    have := this _ (a.stages.drop (i + 1)) 0 0 hno
    rw [← hall, hv] at this
    cases this
   rw [hsn, Qf2, h] at h2
   simp only [Option.bind_some, List.length_take, Nat.zero_add, Nat.min_eq_left (Nat.le_of_lt hi)] at h2
   exact Option.ne_none_iff_exists'.1 h2
  obtain ⟨y, hy⟩ := hstep
  refine ⟨y, ?_, ?_⟩
  ·rw [Q6, hst]
   simp only [Option.bind_some]
   rw [← hy]
   unfold stV
   cases Jc s st.variable_ with
   | none => rfl
   | some x =>
    simp only [Option.bind_some]
    cases Jc st.class_ x with
    | none => rfl
    | some c =>
     simp only [Option.bind_some]
     split
     ·rfl
     ·cases Jc st.after b <;> rfl
  ·rw [hsn, Qf2, h]
   simp only [Option.bind_some, List.length_take, Nat.zero_add, Nat.min_eq_left (Nat.le_of_lt hi)]
   exact hy
 ·intro b h
  rw [List.take_length, hv] at h
  obtain rfl := Zu h
  rw [Q6, hd]
  exact Ok.ret Z
theorem QgX {a : mergeshrink_Abstraction} {s : List Int} (hs : ¬ StateOK a.vars s) : Q1 a s = some 1125899906842624 := by
 classical
 have hp : Yy a.vars s = some (decide (StateOK a.vars s)) := QfN a.vars s
 unfold Q1
 rw [hp]
 simp [hs]
end Go.Pw
/- -/
set_option maxHeartbeats 8000000
namespace Go.Pw
inductive Full (t : Task) : List Int → List mergeshrink_stage → System → Prop
 | one {v : Int} {y : System} : AtomRes t v y → Full t [v] [⟨v, idL y.States.toNat, [], y.States⟩] y
 | snoc {L : List Int} {zs : List mergeshrink_stage} {x y z : System} {v : Int} : Full t L zs x → AtomRes t v y → ProdRes x y z → Full t (L ++ [v]) (zs ++ [⟨v, idL y.States.toNat, idL x.States.toNat, y.States⟩]) z
theorem Full.uniq {t : Task} {L : List Int} {zs zs' : List mergeshrink_stage} {x x' : System} (h : Full t L zs x) (k : Full t L zs' x') : zs = zs' ∧ x = x' := by
 induction h generalizing zs' x' with
 | @one v y hy =>
  generalize hK : [v] = K at k
  cases k with
  | @one v' y' hy' => simp at hK; subst hK; have := hy.uniq hy'; subst this; exact ⟨rfl, rfl⟩
  | @snoc L zs x y z v' h1 h2 h3 =>
   have : L = [] := by
    have := congrArg List.length hK
    simp at this
    exact this
   subst this
   generalize hN : ([] : List Int) = N at h1
   cases h1 <;> simp at hN
 | @snoc L zs x y z v h1 h2 h3 ih =>
  generalize hK : L ++ [v] = K at k
  cases k with
  | @one v' y' hy' =>
   have : L = [] := by
    have := congrArg List.length hK
    simp at this
    exact this
   subst this
   generalize hN : ([] : List Int) = N at h1
   cases h1 <;> simp at hN
  | @snoc L' zs' x' y' z' v' k1 k2 k3 =>
   obtain ⟨e1, e2⟩ := List.append_inj' hK rfl
   simp at e2
   subst e1; subst e2
   obtain ⟨e3, e4⟩ := ih k1
   subst e3; subst e4
   have := h2.uniq k2
   subst this
   have := h3.uniq k3
   subst this
   exact ⟨Z, Z⟩
theorem caps {X y most root : Int} (hX : 1 ≤ X) (hX2 : X ≤ 100) (hy : 1 ≤ y) (hy2 : y ≤ 64) (hm : 1 ≤ most) (hm2 : most ≤ 4096) (hr : 1 ≤ root) (hr2 : root * root ≤ most) :
  Ok ((if decide (most < (IntKind.i64.wrap (X * y))) then ((if decide (X ≤ root) then ((must (!decide (X = 0))).bind fun u100 => some (X, IntKind.i64.wrap (most.tdiv X)))
   else ((if decide (y ≤ root) then ((must (!decide (y = 0))).bind fun u101 => some (IntKind.i64.wrap (most.tdiv y), y)) else (some (root, root))).bind (J2 fun (left100 : Int) (right100 : Int) => some (left100, right100)))).bind (J2 fun (left101 : Int) (right101 : Int) => some (left101, right101)))
   else (some (X, y)))) fun r => 1 ≤ r.1 ∧ 1 ≤ r.2 ∧ r.1 * r.2 ≤ most ∧ (X * y ≤ most → r.1 = X ∧ r.2 = y) := by
 have hb : X * y ≤ 100 * 64 := Int.mul_le_mul hX2 hy2 (by omega) (by omega)
 have hp : 0 ≤ X * y := Int.mul_nonneg (by omega) (by omega)
 have hrm : root ≤ root * root := by
  have := Int.mul_le_mul_of_nonneg_left hr (show 0 ≤ root by omega)
  omega
 have dv : ∀ q : Int, 1 ≤ q → q ≤ root → 1 ≤ most.tdiv q ∧ q * most.tdiv q ≤ most ∧ most.tdiv q ≤ most := by
  intro q h1 h2
  rw [Int.tdiv_eq_ediv_of_nonneg (by omega)]
  have e := Int.mul_ediv_add_emod most q
  have e1 := Int.emod_nonneg most (show q ≠ 0 by omega)
  have e2 := Int.emod_lt_of_pos most (show 0 < q by omega)
  have h3 : 1 ≤ most / q := (Int.le_ediv_iff_mul_le (by omega)).2 (by omega)
  have h4 := Int.ediv_le_self q (show 0 ≤ most by omega)
  exact ⟨h3, by omega, h4⟩
 rw [Jo (show -9223372036854775808 ≤ X * y by omega) (by omega)]
 by_cases h : most < X * y
 ·simp only [h, decide_true, if_true]
  by_cases h1 : X ≤ root
  ·obtain ⟨d1, d2, d3⟩ := dv X hX h1
   simp only [h1, decide_true, if_true, must, show ¬ X = 0 by omega, decide_false, Bool.not_false, Option.bind_some, J2]
   rw [Jo (by omega) (by omega)]
   exact Ok.ret ⟨hX, d1, d2, fun h' => by omega⟩
  ·simp only [h1, decide_false, Bool.false_eq_true, if_false]
   by_cases h2 : y ≤ root
   ·obtain ⟨d1, d2, d3⟩ := dv y hy h2
    simp only [h2, decide_true, if_true, must, show ¬ y = 0 by omega, decide_false, Bool.not_false, Option.bind_some, J2]
    rw [Jo (by omega) (by omega)]
    exact Ok.ret ⟨d1, hy, by simp only; rw [Int.mul_comm]; exact d2, fun h' => by omega⟩
   ·simp only [h2, decide_false, Bool.false_eq_true, if_false, Option.bind_some, J2]
    exact Ok.ret ⟨hr, hr, hr2, fun h' => by omega⟩
 ·simp only [h, decide_false, Bool.false_eq_true, if_false]
  exact Ok.ret ⟨hX, hy, by simp only; omega, fun _ => ⟨Z, Z⟩⟩
end Go.Pw
/- -/
set_option maxHeartbeats 8000000
namespace Go.Pw
structure CRes (t : Task) (L : List Int) (most : Int) (zs : List mergeshrink_stage) (ex : Bool) (x : System) (F : List Int → Nat) : Prop where
 i : CInv t L x F
 v : VOK t zs F
 n : zs.length = L.length
 e : ex = true → CEx t L x F
 m : x.States ≤ most
 f : K5 t.Vars ≤ most → ex = true ∧ x.States = QaH t L ∧ Full t L zs x
abbrev CSt := List mergeshrink_stage × Bool × Int × Int × List Int × List Edge × List Bool
def Qlh (st : CSt) : System := ⟨st.2.2.1, st.2.2.2.1, st.2.2.2.2.1, st.2.2.2.2.2.1, st.2.2.2.2.2.2⟩
structure OrdOK (t : Task) (order : List Int) : Prop where
 d : order.Nodup
 r : ∀ w ∈ order, 0 ≤ w ∧ w < (t.Vars.length : Int)
theorem Qjt {l : List Int} (h : l.Nodup) {i : Nat} {v : Int} (hv : l[i]? = some v) : (l.take i ++ [v]).Nodup := by
 rw [← Jg hv]
 exact h.sublist (List.take_sublist _ _)
theorem QjW {t : Task} {v : Int} {s : List Int} (hs : StateOK t.Vars s) (h0 : 0 ≤ v) (h1 : v < (t.Vars.length : Int)) : Jc s v = some (Qfo v s : Int) := by
 unfold Jc
 rw [if_pos h0]
 exact (QcA hs h0 h1).1
theorem QiG {t : Task} {v : Int} {y : System} {most : Int} {c : List Int} {ex : Bool} {G : List Int → Nat} {zy : System} {ex0 : Bool} (h0 : 0 ≤ v) (h1 : v < (t.Vars.length : Int)) (hy : AtomRes t v y) (hp : K5 t.Vars ≤ 100) (ht : SmallT t) (hm : 1 ≤ most) (he0 : ex0 = true)
  (hr : SmRes t [v] y (Qfo v) ex0 most c zy ex G) : CRes t [v] most [⟨v, c, [], zy.States⟩] ex zy G := by
 have hd := KH ht.g.v h0 h1
 have hpd : QaH t [v] ≤ K5 t.Vars := Qej ht.g.v (by simp) (by simpa using ⟨h0, h1⟩)
 rw [Qba] at hpd
 refine ⟨hr.i, fun s hs => ?_, Z, fun h => hr.xx (QeQ ht h0 h1 hy).2 h, by have := hr.m; omega, fun hle => ?_⟩
 ·simp only [vf, stV, QjW hs h0 h1, Option.bind_some, hr.g s hs]
  simp
 ·obtain ⟨e1, e2, e3⟩ := hr.n (by rw [hy.s]; omega)
  subst e1; subst e2; subst e3
  exact ⟨he0, by rw [Qba]; exact hy.s, Full.one hy⟩
theorem Qjv {t : Task} {L : List Int} {v : Int} {x y x' y' z : System} {most left right : Int} {c1 c2 : List Int} {ex ex1 ex2 : Bool} {F G1 G2 : List Int → Nat} {zs : List mergeshrink_stage} (hL0 : L ≠ []) (hLr : ∀ w ∈ L, 0 ≤ w ∧ w < (t.Vars.length : Int)) (hvL : v ∉ L) (hLn : (L ++ [v]).Nodup) (h0 : 0 ≤ v) (h1 : v < (t.Vars.length : Int)) (hp : K5 t.Vars ≤ 100) (ht : SmallT t)
  (hx : CRes t L most zs ex x F) (hy : AtomRes t v y) (l1 : 1 ≤ left) (r1 : 1 ≤ right) (hlr : left * right ≤ most) (hlx : x.States * y.States ≤ most → left = x.States ∧ right = y.States)
  (hr1 : SmRes t L x F ex left c1 x' ex1 G1) (hr2 : SmRes t [v] y (Qfo v) ex1 right c2 y' ex2 G2) (hz : ProdRes x' y' z) (hs : x'.States * y'.States ≤ 4096) (hl : z.Edges.length ≤ 65536) :
  CRes t (L ++ [v]) most (zs ++ [⟨v, c2, c1, y'.States⟩]) ex2 z (fun s => G1 s * y'.States.toNat + G2 s) := by
 have hd := KH ht.g.v h0 h1
 have hca := QeQ ht h0 h1 hy
 have s1 := hr1.i.v.s1
 have s2 := hr2.i.v.s1
 have hpd : QaH t (L ++ [v]) ≤ K5 t.Vars := Qej ht.g.v hLn fun w hw => by
  rcases List.mem_append.1 hw with h | h
  ·exact hLr w h
  ·simp at h; subst h; exact ⟨h0, h1⟩
 have hpv : QaH t (L ++ [v]) = QaH t L * Kq t.Vars v := by rw [Qcb, Qba]
 have hpL := QfR ht.g hLr
 have hxn := hx.i.n
 have b1 : x'.States ≤ 100 := by
  have := hr1.s
  have : QaH t L ≤ QaH t L * Kq t.Vars v := by
   have := Int.mul_le_mul_of_nonneg_left hd.1 (show 0 ≤ QaH t L by omega)
   omega
  omega
 have b2 : y'.States ≤ 64 := by have := hr2.s; have := hy.s; omega
 have hcx := QkJ ht hLr h0 h1 hr1.i hr2.i hz hs hl
 refine ⟨hcx, fun s hs => ?_, by simp [hx.n], fun h => ?_, ?_, fun hle => ?_⟩
 ·rw [Qf2, hx.v s hs]
  have hne : ¬ ((0 + zs.length : Nat) : Int) = 0 := by
   have : 0 < L.length := List.length_pos_iff.2 hL0
   have := hx.n
   omega
  simp only [Option.bind_some, stV, QjW hs h0 h1, hr2.g s hs, hne, decide_false, Bool.false_eq_true, if_false, hr1.g s hs]
  have a1 := hr1.i.r s hs
  have a2 := hr2.i.r s hs
  have hb : (G1 s : Int) * y'.States ≤ 100 * 64 := Int.mul_le_mul (by omega) b2 (by omega) (by omega)
  have hb0 : 0 ≤ (G1 s : Int) * y'.States := Int.mul_nonneg (by omega) (by omega)
  rw [Jo (show -9223372036854775808 ≤ (G1 s : Int) * y'.States by omega) (by omega), Jo (by omega) (by omega)]
  have e : y'.States = (y'.States.toNat : Int) := by omega
  rw [e]
  simp
 ·have e1 := hr2.e h
  have e0 := hr1.e e1
  exact Qmf ht hLr h0 h1 hvL hr1.i hr2.i hz (hr1.xx (hx.e e0) e1) (hr2.xx hca.2 h)
 ·rw [hz.s]
  have := hr1.m
  have := hr2.m
  have : x'.States * y'.States ≤ left * right := Int.mul_le_mul (by omega) (by omega) (by omega) (by omega)
  omega
 ·obtain ⟨f1, f2, f3⟩ := hx.f hle
  have hxy : x.States * y.States ≤ most := by rw [f2, hy.s, ← hpv]; omega
  obtain ⟨rfl, rfl⟩ := hlx hxy
  obtain ⟨e1, e2, e3⟩ := hr1.n (Int.le_refl _)
  obtain ⟨e4, e5, e6⟩ := hr2.n (Int.le_refl _)
  subst e1; subst e2; subst e3; subst e4; subst e5; subst e6
  exact ⟨f1, by rw [hz.s, f2, hy.s, hpv], Full.snoc f3 hy hz⟩
theorem Qm1 {t : Task} {L : List Int} {v : Int} {x y : System} {F G : List Int → Nat} (ht : SmallT t) (hp : K5 t.Vars ≤ 100) (hLr : ∀ w ∈ L, 0 ≤ w ∧ w < (t.Vars.length : Int)) (hLn : (L ++ [v]).Nodup) (h0 : 0 ≤ v) (h1 : v < (t.Vars.length : Int)) (hx : CInv t L x F) (hy : CInv t [v] y G) {l : Nat} (hl : l < x.Costs.length) :
  (JH x l).length * (JH y l).length ≤ 8192 := by
 have hcl : x.Costs.length = t.Ops.length := by rw [hx.c, List.length_map]
 obtain ⟨o, ho⟩ := QH (xs := t.Ops) (i := l) (by omega)
 have hd := KH ht.g.v h0 h1
 have hpL := QfR ht.g hLr
 have hpd : QaH t (L ++ [v]) ≤ K5 t.Vars := Qej ht.g.v hLn fun w hw => by
  rcases List.mem_append.1 hw with h | h
  ·exact hLr w h
  ·simp at h; subst h; exact ⟨h0, h1⟩
 have hpv : QaH t (L ++ [v]) = QaH t L * Kq t.Vars v := by rw [Qcb, Qba]
 refine ((hx.b l o ho).mul (hy.b l o ho)).top ?_ ?_
 ·rw [← Qfl]
  exact Nat.le_trans (QmG o hLn) (ht.ne o (List.mem_of_getElem? ho))
 ·rw [Qba]
  have e : (QaH t L * Kq t.Vars v).toNat = (QaH t L).toNat * (Kq t.Vars v).toNat := Int.toNat_mul (by omega) (by omega)
  rw [← e, ← hpv]
  omega
end Go.Pw
/- -/
set_option maxHeartbeats 8000000
namespace Go.Pw
def LI (t : Task) (order : List Int) (most : Int) (i : Nat) (st : CSt) : Prop := (i = 0 → st.1 = [] ∧ st.2.1 = true) ∧ (0 < i → ∃ F, CRes t (order.take i) most st.1 st.2.1 (Qlh st) F)
theorem Qhm {t : Task} (ht : GoodT t) : ∀ o ∈ t.Ops, o.Name.size ≤ 9223372036854775807 := fun o ho => by have := (ht.op o ho).nm; omega
theorem QhS {t : Task} (ht : SmallT t) (hp : K5 t.Vars ≤ 100) (h8 : t.Ops.length ≤ 8) {order : List Int} (ho : OrdOK t order) (hne : 0 < order.length) {most : Int} (hm : 1 ≤ most) (hm2 : most ≤ 4096) (vars : List Int) :
  Ok (Ja ⟨vars, [], [], true⟩ t order most) fun r => r.1 = none ∧ ∃ F, CRes t order most r.2.2.1 r.2.2.2 r.2.1 F := by
 have hn := Qhm ht.g
 unfold Ja
 have hz : ¬ (order.length : Int) = 0 := by omega
 simp only [hz, decide_false, Bool.false_eq_true, if_false]
 obtain ⟨root, hroot, hr1, hr2⟩ := Qm2 hm hm2
 refine Ok.step hroot ?_
 refine Ok.ctl (LI t order most) (fun _ => False) ⟨fun _ => ⟨Z, Z⟩, fun h => absurd h (Nat.lt_irrefl _)⟩ ?_ (fun _ h => h.elim) ?_
 ·rintro i ⟨zs, ex, S, I, C, E, Gl⟩ hi ⟨hI0, hI1⟩
  simp only at hI0 hI1
  obtain ⟨v, hv⟩ := QH hi
  have hvm := ho.r v (List.mem_of_getElem? hv)
  have h0 := hvm.1
  have h1 := hvm.2
  have hd := KH ht.g.v h0 h1
  have htk := Jg hv
  have hnd := Qjt ho.d hv
  have hvL : v ∉ order.take i := by
   intro h
   have := (List.nodup_append.1 hnd).2.2 v h
   simp at this
  have hLr : ∀ w ∈ order.take i, 0 ≤ w ∧ w < (t.Vars.length : Int) := fun w hw => ho.r w (List.mem_of_mem_take hw)
  simp only [un7, Q6, hv, Option.bind_some]
  obtain ⟨⟨e, y⟩, hat, ha1, _⟩ := QkM (t := t) (v := v) hn
  obtain ⟨he, hy⟩ | ⟨_, _, hno⟩ := ha1 ⟨ht.g, h0, h1⟩
  rotate_left
  ·exact absurd (ht.room h0 h1) hno
  simp only at he hy
  subst he
  have hca := QeQ ht h0 h1 hy
  have hys := hy.s
  have hyc : y.Costs.length = t.Ops.length := by rw [hy.c, List.length_map]
  refine Ok.step hat ?_
  simp only [J2, Option.isSome_none, Bool.false_eq_true, if_false]
  by_cases hi0 : i = 0
  ·subst hi0
   obtain ⟨rfl, rfl⟩ := hI0 rfl
   simp only [Int.natCast_zero, decide_true, if_true]
   obtain ⟨⟨c, e, y', ex'⟩, hr, h2, G, hG⟩ := QeL hca.1 (by omega) (by omega) ⟨vars, [], [], true⟩ most
   simp only at h2 hG
   subst h2
   refine Ok.step hr ?_
   simp only [un4, Option.isSome_none, Bool.false_eq_true, if_false]
   rw [JM (by simp)]
   refine Ok.ret ⟨fun h => by omega, fun _ => ⟨G, ?_⟩⟩
   have := QiG h0 h1 hy hp ht hm rfl hG
   rw [htk]
   exact this
  ·simp only [show ¬ (i : Int) = 0 by omega, decide_false, Bool.false_eq_true, if_false]
   obtain ⟨F, hF⟩ := hI1 (by omega)
   have hX := hF.i.v.s1
   have hLne : order.take i ≠ [] := by
    intro h
    have := congrArg List.length h
    rw [List.length_take, Nat.min_eq_left (by omega)] at this
    simp only [List.length_nil] at this
    omega
   have hpL : QaH t (order.take i) ≤ K5 t.Vars := Qej ht.g.v ((List.nodup_append.1 hnd).1) hLr
   have hXn := hF.i.n
   have hXc : (Qlh (zs, ex, S, I, C, E, Gl)).Costs.length = t.Ops.length := by rw [hF.i.c, List.length_map]
   obtain ⟨⟨left, right⟩, hcap, l1, r1, hlr, hlx⟩ := caps (X := S) (y := y.States) (most := most) (root := root) hX (show S ≤ 100 by have : S ≤ QaH t (order.take i) := hXn; omega) (by omega) (by omega) hm hm2 hr1 hr2
   refine Ok.step hcap ?_
   simp only at l1 r1 hlr hlx
   simp only [J2]
   obtain ⟨⟨c1, e, x', ex1⟩, hs1, h2, G1, hG1⟩ := QeL hF.i (show S ≤ 100 by have : S ≤ QaH t (order.take i) := hXn; omega) (by omega) ⟨vars, zs, [], ex⟩ left
   simp only at h2 hG1
   subst h2
   refine Ok.step hs1 ?_
   simp only [un4, Option.isSome_none, Bool.false_eq_true, if_false]
   obtain ⟨⟨c2, e, y', ex2⟩, hs2, h2, G2, hG2⟩ := QeL hca.1 (by omega) (by omega) ⟨vars, zs, [], ex1⟩ right
   simp only at h2 hG2
   subst h2
   refine Ok.step hs2 ?_
   simp only [un4, Option.isSome_none, Bool.false_eq_true, if_false]
   have hzl := hF.n
   have hol : (order.take i).length ≤ t.Vars.length := QaV ((List.nodup_append.1 hnd).1) hLr
   have hnv := ht.nv
   rw [JM (by simp; omega)]
   simp only [Option.bind_some]
   have hg1 := hG1.s
   have hg2 := hG2.s
   have q1 := hG1.i.v.s1
   have q2 := hG2.i.v.s1
   have hsx : (Qlh (zs, ex, S, I, C, E, Gl)).States = S := rfl
   have hss : x'.States * y'.States ≤ 4096 := by
    have h1 : x'.States ≤ 100 := by omega
    have : x'.States * y'.States ≤ left * right := Int.mul_le_mul (by have := hG1.m; omega) (by have := hG2.m; omega) (by omega) (by omega)
    omega
   have hcc : x'.Costs = y'.Costs := by rw [hG1.i.c, hG2.i.c]
   have hxl : x'.Costs.length = t.Ops.length := by rw [hG1.i.c, List.length_map]
   refine Ok.bind (Ok.mono (QiK hG1.i.v hG2.i.v hcc hss (C := 8192) (fun l hl => Qm1 ht hp hLr hnd h0 h1 hG1.i hG2.i hl) (by omega)) ?_)
   rintro ⟨e, z⟩ ⟨h2, hz, hzE⟩
   simp only at h2 hz hzE
   subst h2
   simp only [J2, Option.isSome_none, Bool.false_eq_true, if_false]
   have := Qjv hLne hLr hvL hnd h0 h1 hp ht hF hy l1 r1 hlr hlx hG1 hG2 hz hss (by omega)
   rw [← htk] at this
   exact Ok.ret ⟨fun h => by omega, fun _ => ⟨_, this⟩⟩
 ·rintro ⟨zs, ex, S, I, C, E, Gl⟩ ⟨_, hI1⟩
  simp only at hI1
  obtain ⟨F, hF⟩ := hI1 hne
  rw [List.take_length] at hF
  exact Ok.ret ⟨Z, F, hF⟩
end Go.Pw
/- -/
set_option maxHeartbeats 8000000
namespace Go.Pw
theorem Qlz (xs ys : List Int) : Jv xs ys = some (decide (xs = ys)) := QlN xs ys
theorem Qj1 (n : Nat) : (idL n).Pairwise fun a b => a ≤ b := by
 unfold idL
 refine List.pairwise_map.2 (List.Pairwise.imp ?_ (List.pairwise_lt_range (n := n)))
 intro a b h; omega
theorem Qk8 (n : Nat) : (idL n).Nodup := by
 unfold idL
 refine List.pairwise_map.2 (List.Pairwise.imp ?_ (List.nodup_range (n := n)))
 intro a b h e; omega
theorem QjX {n : Nat} {w : Int} : w ∈ idL n ↔ 0 ≤ w ∧ w < (n : Int) := by
 simp only [idL, List.mem_map, List.mem_range]
 constructor
 ·rintro ⟨i, hi, rfl⟩; omega
 ·rintro ⟨h0, h1⟩; exact ⟨w.toNat, by omega, by omega⟩
theorem QgZ {l : List Int} {n : Nat} (h : l.length * 8 ≤ 140737488351232) : ∃ k, Kd l = some k ∧ (k = idL n ↔ l.Perm (idL n)) := by
 obtain ⟨k, h1, h2, h3⟩ := Qbg (l := l) (by omega)
 refine ⟨k, ?_, fun e => e ▸ h2.symm, fun hp => ?_⟩
 ·unfold Kd QcJ
  rw [if_pos h]
  simp only [Option.bind_some, h1]
 ·exact List.Perm.eq_of_pairwise (fun a b _ _ h1 h2 => by omega) h3 (Qj1 n) (h2.trans hp)
theorem QlB {t : Task} {order : List Int} (h : order.Perm (idL t.Vars.length)) : OrdOK t order :=
 ⟨h.nodup_iff.2 (Qk8 _), fun w hw => QjX.1 (h.mem_iff.1 hw)⟩
theorem Qk0 {t : Task} {order : List Int} (h : order.Perm (idL t.Vars.length)) : QaH t order = K5 t.Vars := by
 unfold QaH
 rw [Qep (h.map _)]
 congr 1
 apply List.ext_getElem?
 intro i
 by_cases hi : i < t.Vars.length
 ·rw [List.getElem?_map, QhH hi, Qf5 hi]; rfl
 ·rw [List.getElem?_eq_none (by rw [List.length_map, Qel]; omega), List.getElem?_eq_none (by omega)]
structure BRes (t : Task) (order : List Int) (most : Int) (a : mergeshrink_Abstraction) (x : System) (F : List Int → Nat) : Prop where
 vars : a.vars = t.Vars
 c : CRes t order (max 1 (min most 4096)) a.stages a.exact x F
 d : SP (Qax x true) (Qhu x) x.States.toNat a.distance
theorem QfY {t : Task} (ht : SmallT t) (hp : K5 t.Vars ≤ 100) (h8 : t.Ops.length ≤ 8) (hn : 0 < t.Vars.length) {order : List Int} (hl : order.length * 8 ≤ 140737488351232) (most : Int) :
  (¬ order.Perm (idL t.Vars.length) → Jf t order most = some (none, some 2)) ∧ (order.Perm (idL t.Vars.length) → ∃ a x F, Jf t order most = some (some a, none) ∧ BRes t order most a x F) := by
 have hnm := Qhm ht.g
 obtain ⟨e, he, hg⟩ := Qdh t hnm
 have := hg.2 ht.g
 subst this
 obtain ⟨k, hk1, hk2⟩ := QgZ (l := order) (n := t.Vars.length) hl
 have hnv := ht.nv
 unfold Jf
 rw [he, hk1, Qh9 (by omega)]
 simp only [Option.bind_some, Option.isSome_none, Bool.false_eq_true, if_false, Qlz]
 by_cases h : k = idL t.Vars.length
 ·refine ⟨fun h' => absurd (hk2.1 h) h', fun hperm => ?_⟩
  simp only [h, decide_true, Bool.not_true, Bool.false_eq_true, if_false]
  have hlen : order.length = t.Vars.length := by rw [hperm.length_eq, Qel]
  have hcl : QA t.Vars = some t.Vars := by
   unfold QA
   rw [JM (by simp; omega)]
   rfl
  rw [hcl]
  simp only [Option.bind_some]
  obtain ⟨⟨e, x, zs, ex⟩, hr, h2, F, hF⟩ := QhS ht hp h8 (QlB hperm) (by omega) (most := max 1 (min most 4096)) (by omega) (by omega) t.Vars
  simp only at h2 hF
  subst h2
  obtain ⟨⟨d, e⟩, hd, h3, h4⟩ := QjY hF.i.v
  simp only at h3 h4
  subst h3
  refine ⟨⟨t.Vars, zs, d, ex⟩, x, F, ?_, Z, hF, h4⟩
  rw [hr]
  simp only [Option.bind_some, un4, Option.isSome_none, Bool.false_eq_true, if_false]
  rw [hd]
  rfl
 ·refine ⟨fun _ => ?_, fun hperm => absurd (hk2.2 hperm) h⟩
  simp only [h, decide_false, Bool.not_false, if_true]
section
variable {t : Task} {order : List Int} {most : Int} {a : mergeshrink_Abstraction} {x : System} {F : List Int → Nat}
theorem BRes.val (h : BRes t order most a x F) {s : List Int} (hs : StateOK t.Vars s) : ∃ d, a.distance[F s]? = some d ∧ Q1 a s = some d := by
 obtain ⟨d, hd⟩ := QH (xs := a.distance) (i := F s) (by rw [h.d.len]; exact h.c.i.r s hs)
 exact ⟨d, hd, Qiq (by rw [h.vars]; exact hs) (h.c.v s hs) hd⟩
theorem Qjf (a : mergeshrink_Abstraction) : QY a = (a.distance.length : Int) := by
 have h := JN a
 unfold J4 at h
 exact (Zu h).symm
theorem QhI (a : mergeshrink_Abstraction) : Jl a = a.exact := by
 have h := JJ a
 unfold Jz at h
 exact (Zu h).symm
theorem BRes.size (h : BRes t order most a x F) : (a.distance.length : Int) = x.States := by
 have := h.c.i.v.s1
 rw [h.d.len]; omega
theorem BRes.le (ht : SmallT t) (h : BRes t order most a x F) {k : List Int} (hk : SP (BA t) (QdQ t) (K5 t.Vars).toNat k) {s : List Int} (hs : StateOK t.Vars s) :
  ∃ d b, Q1 a s = some d ∧ a.distance[F s]? = some d ∧ k[(rk t.Vars s).toNat]? = some b ∧ 0 ≤ d ∧ d ≤ b ∧ (Qlc t → order.Perm (idL t.Vars.length) → a.exact = true → d = b) := by
 obtain ⟨d, b, h1, h2, h3, h4, h5⟩ := QlZ ht h.c.i h.d hk hs
 obtain ⟨d', e1, e2⟩ := h.val hs
 rw [h1] at e1
 cases e1
 exact ⟨d, b, e2, h1, h2, h3, h4, fun ho hperm hx => h5 ho (fun w hw => hperm.mem_iff.2 (QjX.2 (by omega))) (h.c.e hx)⟩
end
end Go.Pw
/- -/
set_option maxHeartbeats 8000000
set_option maxRecDepth 20000
namespace Go.Pw
def exT : Task := ⟨[2, 3], [0, 0], [⟨1, 1⟩], [⟨⟨#[]⟩, 1, [⟨0, 0⟩], [⟨[], 0, 1⟩]⟩, ⟨⟨#[]⟩, 1, [⟨0, 1⟩], [⟨[], 0, 0⟩]⟩, ⟨⟨#[]⟩, 1, [⟨0, 0⟩, ⟨1, 0⟩], [⟨[], 1, 2⟩]⟩, ⟨⟨#[]⟩, 1, [⟨0, 1⟩, ⟨1, 2⟩], [⟨[], 1, 1⟩]⟩]⟩
theorem Qok : KC = exT := by
 have h := Y7
 unfold Y0 at h
 exact (Zu h).symm
theorem QdH {s : List Int} : StateOK [2, 3] s ↔ s ∈ [[0, 0], [0, 1], [0, 2], [1, 0], [1, 1], ([1, 2] : List Int)] := by
 rw [← Qbe]
 have : Js [2, 3] = [[0, 0], [0, 1], [0, 2], [1, 0], [1, 1], [1, 2]] := by decide
 rw [this]
theorem QjJ {o : Op} (h : o ∈ exT.Ops) : o = ⟨⟨#[]⟩, 1, [⟨0, 0⟩], [⟨[], 0, 1⟩]⟩ ∨ o = ⟨⟨#[]⟩, 1, [⟨0, 1⟩], [⟨[], 0, 0⟩]⟩ ∨ o = ⟨⟨#[]⟩, 1, [⟨0, 0⟩, ⟨1, 0⟩], [⟨[], 1, 2⟩]⟩ ∨ o = ⟨⟨#[]⟩, 1, [⟨0, 1⟩, ⟨1, 2⟩], [⟨[], 1, 1⟩]⟩ := by
 simpa [exT] using h
theorem ex_small : SmallT exT := by
 have f0 : FactsOK [2, 3] [] := ⟨by simp, by simp⟩
 refine ⟨⟨by simp [exT], by simp [exT], by simp [exT], QdH.2 (by simp [exT]), ⟨by simp [exT, InR], by simp [exT]⟩, fun o ho => ?_⟩, by simp [exT], by simp [exT], fun o ho => ?_, by simp [exT, K5]⟩
 ·rcases QjJ ho with rfl | rfl | rfl | rfl
  all_goals
   refine ⟨by simp, by simp, by simp, Nat.zero_le _, by simp [JW], ⟨by simp [exT, InR], by simp⟩, by simp [exT, InR, f0]⟩
 ·rcases QjJ ho with rfl | rfl | rfl | rfl <;> simp
theorem Qn5 : Qlc exT := by
 intro o ho
 rcases QjJ ho with rfl | rfl | rfl | rfl <;> simp
def pot (s : List Int) : Int := ([3, 0, 2, 4, 0, 1] : List Int)[(rk [2, 3] s).toNat]?.getD 0
theorem QlA {s : List Int} (hs : StateOK [2, 3] s) {o : Op} (ho : o ∈ exT.Ops) (hp : Kt o.Pre s) : pot s ≤ o.Cost + pot (JT o.Effs s) := by
 have hs := QdH.1 hs
 simp only [List.mem_cons, List.not_mem_nil, or_false] at hs
 rcases QjJ ho with rfl | rfl | rfl | rfl <;> rcases hs with rfl | rfl | rfl | rfl | rfl | rfl <;> first
  | (exfalso; revert hp; simp [Kt]; done)
  | (simp [JT, Kt, pot, rk, rkZ]; done)
theorem Qn1 {i : Nat} {c : Int} (h : Reach (BA exT) (QdQ exT) i c) : ∀ s, StateOK [2, 3] s → rk [2, 3] s = (i : Int) → pot s ≤ c := by
 have hv1 : ∀ n ∈ ([2, 3] : List Int), 1 ≤ n := by simp
 induction h with
 | base hs =>
  intro s hsok hr
  obtain ⟨s', hs', h1, h2⟩ := hs
  have := Qh0 hv1 hs' hsok (by rw [hr]; exact h1)
  subst this
  have h3 := QdH.1 hsok
  simp only [List.mem_cons, List.not_mem_nil, or_false] at h3
  rcases h3 with rfl | rfl | rfl | rfl | rfl | rfl <;> first
   | (exfalso; revert h2; simp [Kt, exT]; done)
   | (simp [pot, rk, rkZ]; done)
 | step _ ha ih =>
  intro s hsok hr
  obtain ⟨s', l, o, hs', ho, hp, rfl, h1, h2⟩ := ha
  have := Qh0 hv1 hs' hsok (by rw [hr]; exact h2)
  subst this
  have hom := List.mem_of_getElem? ho
  have h3 := ih _ (QfL ex_small.g ho hs') h1
  have h4 := QlA hs' hom hp
  omega
theorem QlU : Reach (BA exT) (QdQ exT) 0 3 := by
 have h1 : Reach (BA exT) (QdQ exT) 4 0 := .base ⟨[1, 1], QdH.2 (by simp), rfl, by simp [Kt, exT]⟩
 have h2 := Reach.step (u := 5) (w := 1) h1 ⟨[1, 2], 3, _, QdH.2 (by simp), rfl, by simp [Kt], rfl, by simp [JT, Kt, exT, rk, rkZ], rfl⟩
 have h3 := Reach.step (u := 2) (w := 1) h2 ⟨[0, 2], 0, _, QdH.2 (by simp), rfl, by simp [Kt], rfl, by simp [JT, Kt, exT, rk, rkZ], rfl⟩
 exact Reach.step (u := 0) (w := 1) h3 ⟨[0, 0], 2, _, QdH.2 (by simp), Z, by simp [Kt], Z, by simp [JT, Kt, exT, rk, rkZ], Z⟩
theorem QmE {k : List Int} (hk : SP (BA exT) (QdQ exT) (K5 exT.Vars).toNat k) : k[0]? = some 3 := by
 obtain ⟨z, hz, hz3⟩ := hk.le (Qjn ex_small) QlU (by decide)
 have h := Qn1 (hk.re _ _ hz (Int.lt_of_le_of_lt hz3 (by decide))) [0, 0] (QdH.2 (by simp)) rfl
 have : pot [0, 0] = 3 := by decide
 rw [hz]
 congr 1; omega
theorem Qmi : Y4 = some true := by
 have hp : K5 exT.Vars ≤ 100 := by simp [exT, K5]
 have hpv : K5 exT.Vars = 6 := by simp [exT, K5]
 have h8 : exT.Ops.length ≤ 8 := by simp [exT]
 have hn : 0 < exT.Vars.length := by simp [exT]
 have p1 : ([0, 1] : List Int).Perm (idL exT.Vars.length) := by decide
 have p2 : ([1, 0] : List Int).Perm (idL exT.Vars.length) := by decide
 obtain ⟨a, x, F, ha, hA⟩ := (QfY ex_small hp h8 hn (order := [0, 1]) (by simp) 6).2 p1
 obtain ⟨b, y, G, hb, hB⟩ := (QfY ex_small hp h8 hn (order := [1, 0]) (by simp) 1).2 p2
 have s00 : StateOK exT.Vars [0, 0] := QdH.2 (by simp)
 have s01 : StateOK exT.Vars [0, 1] := QdH.2 (by simp)
 obtain ⟨k, _, hk⟩ := Qmg ex_small
 obtain ⟨f1, f2, _⟩ := hA.c.f (by rw [hpv]; decide)
 have va : Q1 a [0, 0] = some 3 := by
  obtain ⟨d, e, v1, v2, v3, v4, v5, v6⟩ := hA.le ex_small hk s00
  have h6 := v6 Qn5 p1 f1
  have h7 := QmE hk
  rw [show (rk exT.Vars [0, 0]).toNat = 0 from rfl] at v3
  rw [h7] at v3
  cases v3
  rw [v1, h6]
 have sa : (a.distance.length : Int) = 6 := by rw [hA.size, f2, Qk0 p1, hpv]
 have hy : y.States = 1 := by
  have h1 := hB.c.m
  have h2 := hB.c.i.v.s1
  have : max 1 (min (1 : Int) 4096) = 1 := by decide
  omega
 have g0 : ∀ s, StateOK exT.Vars s → G s = 0 := fun s hs => by have := hB.c.i.r s hs; omega
 have hgoal : y.Goals[0]? = some true := by
  have := hB.c.i.g [0, 1] s01 (by simp [exT])
  rw [g0 _ s01] at this
  exact this
 have vb : Q1 b [0, 0] = some 0 := by
  obtain ⟨d, h1, h2⟩ := hB.val s00
  rw [g0 _ s00, hB.d.s0 0 hgoal] at h1
  cases h1
  exact h2
 have sb : (b.distance.length : Int) = 1 := by rw [hB.size, hy]
 have eb : b.exact = false := by
  cases h : b.exact with
  | false => rfl
  | true =>
   have := (hB.c.e h).gl [0, 0] s00 (by rw [g0 _ s00]; exact hgoal) ⟨1, 1⟩ (by simp [exT]) (by simp)
   simp at this
 unfold Y4
 rw [Qok, ha]
 simp only [Option.bind_some, J2, Qfp]
 rw [hb]
 simp only [Option.bind_some, J2, Qfp, Option.isNone_none, must, if_true, va, Qjf, QhI, sa, sb, f1, eb, vb, decide_true, Bool.not_false]
end Go.Pw
/- -/
set_option maxHeartbeats 8000000
namespace Go.Pw
structure FewT (t : Task) : Prop where
 s : SmallT t
 n : 0 < t.Vars.length
 p : K5 t.Vars ≤ 100
 o : t.Ops.length ≤ 8
open Classical in
theorem Qn4 (t : Task) : Qbj t = some (decide (FewT t)) := by
 refine QbW ?_
 unfold Qbj
 rw [Ql6]
 simp only [Option.bind_some]
 by_cases h : SmallT t
 ·simp only [h, decide_true, if_true]
  by_cases hn : 0 < t.Vars.length
  ·simp only [show (0 : Int) < (t.Vars.length : Int) by omega, decide_true, if_true]
   refine Ok.bind (Ok.bind ((QfT h.g.v (most := 100) (by omega) (by omega)).mono ?_))
   intro m hm
   by_cases h1 : m ≤ 100
   ·have hp : K5 t.Vars ≤ 100 := by omega
    simp only [h1, decide_true, if_true]
    by_cases h2 : t.Ops.length ≤ 8
    ·refine Ok.ret (Ok.ret ?_)
     rw [decide_eq_true (show (t.Ops.length : Int) ≤ 8 by omega), decide_eq_true (FewT.mk h hn hp h2)]
    ·refine Ok.ret (Ok.ret ?_)
     rw [decide_eq_false (show ¬ (t.Ops.length : Int) ≤ 8 by omega), decide_eq_false fun hf : FewT t => h2 hf.o]
   ·simp only [h1, decide_false, Bool.false_eq_true, if_false]
    refine Ok.ret (Ok.ret ?_)
    rw [decide_eq_false fun hf : FewT t => by have := hf.p; omega]
  ·simp only [show ¬ (0 : Int) < (t.Vars.length : Int) by omega, decide_false, Bool.false_eq_true, if_false]
   refine Ok.ret ?_
   rw [decide_eq_false fun hf : FewT t => hn hf.n]
 ·simp only [h, decide_false, Bool.false_eq_true, if_false]
  refine Ok.ret ?_
  rw [decide_eq_false fun hf : FewT t => h hf.s]
end Go.Pw
/- -/
set_option maxHeartbeats 8000000
namespace Go.Pw
theorem FewT.many {t : Task} (h : FewT t) : YC t.Vars 100 = some (K5 t.Vars) := by
 have hp := h.p
 refine QbW ((QfT h.s.g.v (most := 100) (by omega) (by omega)).mono ?_)
 intro m hm
 omega
theorem FewT.pos {t : Task} (h : FewT t) : 1 ≤ K5 t.Vars := Qb4 fun n hn => (h.s.g.v n hn).1
end Go.Pw
/- -/
set_option maxHeartbeats 8000000
namespace Go.Pw
theorem Qhn {f : List Fact} (h : FactsOK [] f) : f = [] := by
 have := h.len
 exact List.eq_nil_of_length_eq_zero (by simpa using this)
structure ZeroRes (t : Task) (x : System) : Prop where
 s : x.States = 1
 i : x.Init = 0
 c : x.Costs = t.Ops.map fun o => o.Cost
 e : x.Edges = (List.range t.Ops.length).map fun (l : Nat) => (⟨0, (l : Int), 0⟩ : Edge)
 g : x.Goals = [true]
theorem Qmc (a : Int) : Jn [a] = some (1, [a]) := by
 unfold Jn
 simp
theorem Ql5 : Yd [] = some [] := by
 obtain ⟨k, h1, h2, _⟩ := Qbg (l := []) (by simp)
 rw [h1, h2.eq_nil]
theorem Ql4 (a : Int) : Yd [a] = some [a] := by
 obtain ⟨k, h1, h2, _⟩ := Qbg (l := [a]) (by simp)
 rw [h1, List.perm_singleton.1 h2]
theorem Qix (t : Task) (n : Int) : QcQ t [] [] n = some [] := by
 unfold QcQ
 simp [must, forS, J2]
theorem Qi1 (t : Task) (s : List Int) : JO t [] s = some 0 := by
 unfold JO
 simp [forS]
theorem QdY (t : Task) : Kf t [] = some (1, true) := by
 unfold Kf
 simp [JS, ctl]
theorem Qj9 : Jr [] = some [] := by
 unfold Jr
 rw [JM (by simp)]
 rfl
theorem QhP {o : Op} (he : o.Effs = []) : Ko o [] = some [] := by
 unfold Ko
 simp only [he, List.length_nil, forS, Option.bind_some, Ql5]
theorem QhK {t : Task} {i : Nat} {o : Op} (hv : t.Vars = []) (ho : t.Ops[i]? = some o) (hp : o.Pre = []) (he : o.Effs = []) : Kn t (i : Int) [] [] 0 = some [0] := by
 unfold Kn
 rw [Q6, ho]
 simp only [Option.bind_some, hv, hp, he, List.length_nil]
 rw [QaK (n := 0) (by omega) (by omega)]
 simp only [Option.bind_some, List.replicate_zero, Qix, JS, ctl, QdY, J2, must, show (1 : Int) ≤ 9223372036854775807 by omega, decide_true, if_true, show Int.toNat 1 = 1 from rfl, forS, Int.natCast_zero, Qj9, Qi1]
 rw [JM (by simp)]
 simp only [Option.bind_some, List.nil_append, Ql4, Qmc, J2, List.length_singleton, Nat.le_refl, decide_true, if_true, List.take_succ_cons, List.take_zero]
theorem QlP (n : Nat) : (List.range (n + 1)).map (fun (l : Nat) => (⟨0, (l : Int), 0⟩ : Edge)) = (List.range n).map (fun (l : Nat) => (⟨0, (l : Int), 0⟩ : Edge)) ++ [⟨0, (n : Int), 0⟩] := by
 rw [List.range_succ, List.map_append]; rfl
theorem QiJ {t : Task} (ht : GoodT t) (hv : t.Vars = []) (hn : ∀ o ∈ t.Ops, o.Name.size ≤ 9223372036854775807) : Ok (J6 t []) fun r => r.1 = none ∧ ZeroRes t r.2 := by
 have hno := ht.no
 have hop : ∀ o ∈ t.Ops, o.Pre = [] ∧ o.Effs = [] := by
  intro o ho
  have h := ht.op o ho
  rw [hv] at h
  refine ⟨Qhn h.pre, ?_⟩
  cases he : o.Effs with
  | nil => rfl
  | cons e l =>
   have h2 := (h.eff e (by simp [he])).2
   have h3 := h2.1
   have h4 := h2.2.1
   simp only [List.length_nil, Int.natCast_zero] at h3 h4
   omega
 have hgoal : t.Goal = [] := by
  have h := ht.goal
  rw [hv] at h
  exact Qhn h
 unfold J6 KW
 obtain ⟨e, he, hg⟩ := Qdh t hn
 obtain rfl := hg.2 ht
 rw [he]
 simp only [Option.bind_some, Option.isSome_none, Bool.false_eq_true, if_false, List.length_nil, JS, ctl, QdY, J2, Bool.not_true, Qi1]
 refine Ok.step (QaK (by omega) (by omega)) ?_
 refine Ok.ctl (fun i q => q.1 = (t.Ops.take i).map (fun o => o.Cost) ∧ q.2.length = t.Ops.length ∧ ∀ (j : Nat), j < t.Ops.length → q.2[j]? = some []) (fun _ => False) ⟨by simp, by simp, fun j hj => by rw [List.getElem?_replicate, if_pos hj]⟩ ?_ (fun _ h => h.elim) ?_
 ·rintro i ⟨cs, fs⟩ hi ⟨g1, g2, g3⟩
  simp only at g1 g2 g3
  obtain ⟨o, ho⟩ := QH hi
  have hO := hop o (List.mem_of_getElem? ho)
  simp only [J2, Q6, ho, Option.bind_some]
  rw [JM (by rw [g1]; simp; omega)]
  simp only [Option.bind_some, QhP hO.2, g3 i hi, JB (show i < fs.length by omega)]
  rw [List.getElem?_set_self (by omega)]
  simp only [Option.bind_some, QdY, J2, Bool.not_true, Bool.false_eq_true, if_false]
  refine Ok.ret ⟨by simp only; rw [g1, Jg ho]; simp, by simp [g2], fun j hj => ?_⟩
  simp only
  by_cases e : j = i
  ·subst e; rw [List.getElem?_set_self (by omega)]
  ·rw [List.getElem?_set_ne (Ne.symm e)]; exact g3 j hj
 rintro ⟨cs, fs⟩ ⟨g1, g2, g3⟩
 simp only at g1 g2 g3
 rw [List.take_length] at g1
 simp only [J2, hv, List.length_nil]
 rw [QaK (n := 0) (by omega) (by omega)]
 simp only [Option.bind_some, List.replicate_zero, must, show (1 : Int) ≤ 9223372036854775807 by omega, decide_true, if_true, show Int.toNat 1 = 1 from rfl]
 refine Ok.ctl (fun a q => q.2.2 = [] ∧ (a = 0 → q.1 = [] ∧ q.2.1 = []) ∧ (a = 1 → q.1 = (List.range t.Ops.length).map (fun (l : Nat) => (⟨0, (l : Int), 0⟩ : Edge)) ∧ q.2.1 = [true])) (fun _ => False) ⟨Z, fun _ => ⟨Z, Z⟩, fun h => by cases h⟩ ?_ (fun _ h => h.elim) ?_
 ·rintro a ⟨E, G, s⟩ ha ⟨k1, k2, _⟩
  simp only at k1 k2
  obtain rfl : a = 0 := by omega
  obtain ⟨rfl, rfl⟩ := k2 rfl
  subst k1
  simp only [un3, Qix, hgoal, List.length_nil, forS, Option.bind_some]
  rw [JM (by simp)]
  simp only [Option.bind_some, List.nil_append]
  refine Ok.ctl (fun i E' => E' = (List.range i).map (fun (l : Nat) => (⟨0, (l : Int), 0⟩ : Edge))) (fun _ => False) Z ?_ (fun _ h => h.elim) ?_
  ·rintro i E' hi rfl
   obtain ⟨o, ho⟩ := QH hi
   have hO := hop o (List.mem_of_getElem? ho)
   have htz := QhK hv ho hO.1 hO.2
   simp only [Q6, g3 i hi, Option.bind_some, Int.natCast_zero, htz, List.length_singleton, JS, ctl, List.getElem?_cons_zero]
   have hlen : ¬ (((List.range i).map (fun (l : Nat) => (⟨0, (l : Int), 0⟩ : Edge))).length : Int) = 65536 := by simp; omega
   simp only [hlen, decide_false, Bool.false_eq_true, if_false]
   rw [JM (by simp; omega)]
   exact Ok.ret (QlP i).symm
  ·rintro E' rfl
   exact Ok.ret ⟨Z, fun h => (by omega), fun _ => ⟨Z, Z⟩⟩
 ·rintro ⟨E, G, s⟩ ⟨_, _, k3⟩
  simp only at k3
  obtain ⟨rfl, rfl⟩ := k3 trivial
  exact Ok.ret ⟨Z, Z, Z, g1, Z, Z⟩
theorem ZeroRes.vsys {t : Task} {x : System} (ht : GoodT t) (hx : ZeroRes t x) : VSys x := by
 have hno := ht.no
 have hs := hx.s
 have hi := hx.i
 refine ⟨by omega, by omega, by omega, by omega, by rw [hx.g, hs]; rfl, by rw [hx.c]; simpa using hno, by rw [hx.e]; simp; omega, ?_, ?_, ?_⟩
 ·intro c hc
  rw [hx.c] at hc
  obtain ⟨o, ho, rfl⟩ := List.mem_map.1 hc
  exact ⟨(ht.op o ho).c0, (ht.op o ho).c1⟩
 ·intro d hd
  rw [hx.e] at hd
  obtain ⟨l, hl, rfl⟩ := List.mem_map.1 hd
  simp only [List.mem_range] at hl
  rw [hs, hx.c, List.length_map]
  simp only
  omega
 ·intro i a b ha hb
  rw [hx.e, List.getElem?_map] at ha hb
  have h1 : i < t.Ops.length := by
   by_cases h : i < t.Ops.length
   ·exact h
   ·rw [List.getElem?_eq_none (by simp; omega)] at ha; cases ha
  have h2 : i + 1 < t.Ops.length := by
   by_cases h : i + 1 < t.Ops.length
   ·exact h
   ·rw [List.getElem?_eq_none (by simp; omega)] at hb; cases hb
  rw [List.getElem?_range h1] at ha
  rw [List.getElem?_range h2] at hb
  cases ha; cases hb
  exact .inr ⟨Z, .inl (by simp only; omega)⟩
theorem Qhr {t : Task} (ht : GoodT t) (hv : t.Vars = []) (hn : ∀ o ∈ t.Ops, o.Name.size ≤ 9223372036854775807) (most : Int) : ∃ a, Jf t [] most = some (some a, none) ∧ a.vars = [] ∧ a.stages = [] ∧ a.exact = true ∧ a.distance = [0] := by
 obtain ⟨e, he, hg⟩ := Qdh t hn
 obtain rfl := hg.2 ht
 obtain ⟨k, hk1, hk2⟩ := QgZ (l := []) (n := 0) (by simp)
 have hk : k = idL 0 := hk2.2 (by simp [idL])
 subst hk
 unfold Jf
 have hs := Qh9 (n := 0) (by omega)
 rw [he, hk1, hv]
 simp only [Option.bind_some, Option.isSome_none, Bool.false_eq_true, if_false, List.length_nil, hs, Qlz, decide_true, Bool.not_true]
 have hcl : QA [] = some [] := by
  unfold QA
  rw [JM (by simp)]
  rfl
 rw [hcl]
 simp only [Option.bind_some]
 obtain ⟨⟨e, x⟩, hp, h1, hx⟩ := QiJ ht hv hn
 simp only at h1 hx
 subst h1
 have hc : Ja ⟨[], [], [], true⟩ t [] (max 1 (min most 4096)) = some (none, x, [], true) := by
  unfold Ja
  simp only [List.length_nil, Int.natCast_zero, decide_true, if_true, hp, Option.bind_some, J2]
 rw [hc]
 obtain ⟨⟨d, e⟩, hd, h3, h4⟩ := QjY (hx.vsys ht)
 simp only at h3 h4
 subst h3
 simp only [Option.bind_some, un4, Option.isSome_none, Bool.false_eq_true, if_false, hd, J2]
 refine ⟨_, Z, Z, Z, Z, ?_⟩
 have hl := h4.len
 rw [hx.s] at hl
 have h0 := h4.s0 0 (by unfold Qhu; rw [hx.g]; rfl)
 match d, hl, h0 with
 | [a], _, h0 => simpa using h0
end Go.Pw
/- -/
set_option maxHeartbeats 8000000
namespace Go.Pw
theorem Qnw (s : List Int) : QO s = 1125899906842624 := (Zu (KA s)).symm
theorem Qny : Jd = 0 := (Zu KG).symm
theorem Qnv : Jb = false := (Zu KB).symm
theorem QlG (n : Nat) (h : n ≤ 5) : forS (fun i100 => fun (order100 : (List Int)) => (app 8 order100 [(i100 : Int)]).bind fun l100 => some l100) n 0 [] = some (idL n) := by
 refine QbW (J5 (fun j l => l = idL j) (by simp [idL]) ?_ (fun s h => h))
 rintro j l hj rfl
 rw [JM (by rw [Qel]; simp; omega)]
 refine Ok.ret ?_
 unfold idL
 rw [List.range_succ, List.map_append]
 rfl
theorem QnQ : GoodT ⟨[], [], [], []⟩ := ⟨by simp, by simp, by simp, StateOK.nil, ⟨by simp, List.Pairwise.nil⟩, by simp⟩
theorem QkC (t : Task) (s : List Int) (most : Int) (hn : ∀ o ∈ t.Ops, o.Name.size ≤ maxLen) : K4 t s most = some true := by
 classical
 have hn' : ∀ o ∈ t.Ops, o.Name.size ≤ 9223372036854775807 := hn
 unfold K4
 rw [Qmi]
 simp only [Option.bind_some, Bool.not_true, Bool.false_eq_true, if_false]
 by_cases g1 : 5 < (t.Vars.length : Int)
 ·simp [g1]
 by_cases g2 : 8 < (t.Ops.length : Int)
 ·simp [g1, g2]
 by_cases g3 : 50 < (s.length : Int)
 ·simp [g1, g2, g3]
 simp only [g1, g2, g3, decide_false, Bool.false_eq_true, if_false, Option.bind_some, Qnw, Qny, Qnv, decide_true, Bool.not_true, Bool.or_self]
 rw [QlG _ (by omega)]
 simp only [Option.bind_some, QmY]
 by_cases hG : GoodT t
 ·simp only [hG, decide_true, if_true, Bool.not_true, Bool.false_eq_true, if_false]
  have hno := hG.no
  obtain ⟨a0, z1, z2, z3, z4, z5⟩ := Qhr QnQ rfl (by simp) most
  have hv0 : Q1 a0 [] = some 0 := Qiq (k := 0) (by rw [z2]; exact StateOK.nil) (by rw [z3]; rfl) (by rw [z5]; rfl)
  have hv1 : Q1 a0 [0] = some 1125899906842624 := QgX (by
   rw [z2]
   intro h
   have := h.len
   simp at this)
  have fin : ∀ a : mergeshrink_Abstraction, a.vars = t.Vars → (((KY t.Vars s).bind <| fun (y107 : Bool) =>
    if !y107 then ((Q1 a s).bind <| fun (y108 : Int) => some (!decide (y108 = 1125899906842624)))
    else (some false)) = some false) := by
   intro a ha
   rw [Qje]
   simp only [Option.bind_some]
   by_cases hs : StateOK t.Vars s
   ·simp [hs]
   ·rw [QgX (by rw [ha]; exact hs)]
    simp [hs]
  by_cases hv : t.Vars = []
  ·obtain ⟨a, y1, y2, _, _, _⟩ := Qhr hG hv hn' most
   have hi : idL t.Vars.length = [] := by rw [hv]; rfl
   rw [hi]
   have hz : ¬ (0 : Int) < (t.Vars.length : Int) := by rw [hv]; simp
   simp only [hz, decide_false, Bool.false_eq_true, if_false, Option.bind_some, y1, J2, Qfp, Option.isNone_none, must, if_true, fin a (by rw [y2, hv]), z1, Qjf, QhI, z4, z5, List.length_singleton, Int.natCast_one, decide_true, hv0, hv1]
  ·have hpos : (0 : Int) < (t.Vars.length : Int) := by
    have := List.length_pos_iff.2 hv
    omega
   simp only [hpos, decide_true, if_true, Qn4, Option.bind_some]
   by_cases hF : FewT t
   rotate_left
   ·simp [hF]
   simp only [hF, decide_true, Bool.not_true, Bool.false_eq_true, if_false, Option.bind_some]
   have hl : (idL t.Vars.length).length * 8 ≤ 140737488351232 := by rw [Qel]; have := hF.s.g.nv; omega
   obtain ⟨a, x, F, ha, hA⟩ := (QfY hF.s hF.p hF.o hF.n hl most).2 (.refl _)
   simp only [ha, Option.bind_some, J2, Qfp, Option.isNone_none, must, if_true, fin a hA.vars, Bool.false_eq_true, if_false, z1, Qjf, QhI, z4, z5, List.length_singleton, Int.natCast_one, decide_true, hv0, hv1]
 ·obtain ⟨e, he, hg⟩ := Qdh t hn'
  cases e with
  | none => exact absurd (hg.1 rfl) hG
  | some e =>
   have hB : ∀ o, Jf t o most = some (none, some e) := by
    intro o
    unfold Jf
    rw [he]
    rfl
   simp [hG, hB, J2, Qfp, must]
end Go.Pw
