/- -/
import Derived.Test.YtfcmpbkafbhdgaaGreatDoorWcTd
set_option maxHeartbeats 8000000
set_option linter.unusedSimpArgs false
set_option linter.unusedVariables false
namespace Go.Pw
structure PreC (t : Task) (b : Int) (N : List Nogood) : Prop where
 b0 : -1 ≤ b
 b1 : b ≤ 1099511627776
 len : N.length ≤ 4096
 pv : ∀ n ∈ N, FactsOK t.Vars n.Facts
 ds : ∀ n ∈ N, DOK b n.Dist
theorem QjR {t : Task} (ht : GoodT t) {x : Fact} (h : InR t.Vars x) : x.Var < 64 ∧ x.Val < 64 := by
 have hv := ht.nv
 have h1 := h.1
 have h2 := h.2.1
 obtain ⟨d, hd⟩ := Ql (xs := t.Vars) (i := x.Var.toNat) (by omega)
 have h3 := (ht.v d (List.mem_of_getElem? hd)).2
 have h4 := h.2.2.2
 rw [hd] at h4
 simp at h4
 omega
theorem QiM {p : List Fact} (h : p.Pairwise fun a b => a.Var < b.Var) {i j : Nat} {a b : Fact} (ha : p[i]? = some a) (hb : p[j]? = some b) (hij : i < j) : a.Var < b.Var := by
 have h1 := List.getElem?_eq_some_iff.1 ha
 have h2 := List.getElem?_eq_some_iff.1 hb
 have := List.pairwise_iff_getElem.1 h i j h1.1 h2.1 hij
 rw [h1.2, h2.2] at this
 exact this
theorem Qjx {t : Task} (ht : GoodT t) {f : List Fact} (hf : FactsOK t.Vars f) : JE f = some true := by
 have hl := hf.len
 have hv := ht.nv
 refine Ok.eq ?_
 unfold JE
 refine Ok.ctl (fun _ _ => True) (fun _ => False) trivial ?_ (fun _ h => h.elim) (fun _ _ => Ok.ret Z)
 intro i _ hi _
 obtain ⟨x, hx⟩ := Ql (xs := f) (i := i) (by omega)
 have hr := hf.r x (List.mem_of_getElem? hx)
 have hd := QjR ht hr
 have e1 : ¬ x.Var < 0 := by have := hr.1; omega
 have e2 : ¬ 64 ≤ x.Var := by omega
 have e3 : ¬ x.Val < 0 := by have := hr.2.2.1; omega
 have e4 : ¬ 64 ≤ x.Val := by omega
 rw [Qj, hx]
 simp only [Option.bind_some, e1, e2, e3, e4, decide_false, Bool.false_eq_true, if_false]
 by_cases h0 : 0 < i
 ·have h0' : (0 : Int) < (i : Int) := by omega
  have hw : IntKind.i64.wrap ((i : Int) - 1) = ((i - 1 : Nat) : Int) := by rw [Q1 (by omega) (by omega)]; omega
  obtain ⟨a, ha⟩ := Ql (xs := f) (i := i - 1) (by omega)
  have := QiM hf.o ha hx (by omega)
  have e5 : ¬ x.Var ≤ a.Var := by omega
  simp only [h0', decide_true, if_true, hw, Qj, ha, Option.bind_some, e5, decide_false, Bool.false_eq_true, if_false]
  exact Ok.ret trivial
 ·have h0' : ¬ (0 : Int) < (i : Int) := by omega
  simp only [h0', decide_false, Bool.false_eq_true, if_false, Option.bind_some]
  exact Ok.ret trivial
theorem QgA {t : Task} (ht : GoodT t) {b : Int} {N : List Nogood} (h : PreC t b N) : QY ⟨b, N⟩ = some none := by
 have e1 : ¬ b < -1 := by have := h.b0; omega
 have e2 : ¬ 1099511627776 < b := by have := h.b1; omega
 have e3 : ¬ 4096 < (N.length : Int) := by have := h.len; omega
 refine Ok.eq ?_
 unfold QY
 simp only [e1, e2, e3, decide_false, Bool.or_self, Bool.false_eq_true, if_false]
 refine Ok.ctl (fun _ _ => True) (fun _ => False) trivial ?_ (fun _ h => h.elim) (fun _ _ => ?_)
 ·intro i _ hi _
  obtain ⟨x, hx⟩ := Ql (xs := N) (i := i) (by omega)
  rw [Qj, hx]
  simp only [Option.bind_some]
  rw [Qjx ht (h.pv x (List.mem_of_getElem? hx))]
  simp only [Option.bind_some, Bool.not_true, Bool.false_eq_true, if_false]
  exact Ok.ret trivial
 ·refine Ok.ctl (fun _ _ => True) (fun _ => False) trivial ?_ (fun _ h => h.elim) (fun _ _ => Ok.ret Z)
  intro i _ hi _
  obtain ⟨x, hx⟩ := Ql (xs := N) (i := i) (by omega)
  have hd := h.ds x (List.mem_of_getElem? hx)
  rw [Qj, hx]
  simp only [Option.bind_some]
  have e4 : ¬ x.Dist < 0 := by have := hd.z; omega
  by_cases hb : 0 ≤ b
  ·have e5 : ¬ b < 0 := by omega
   have e6 : ¬ b ≤ x.Dist := by have := hd.p hb; omega
   simp only [e4, hb, e5, e6, decide_true, decide_false, cond_true, Bool.or_self, Bool.false_and, Bool.false_eq_true, if_false]
   exact Ok.ret trivial
  ·have e5 : b < 0 := by omega
   have e6 := hd.n e5
   simp only [e4, hb, e5, e6, decide_true, decide_false, cond_false, Bool.not_true, Bool.and_false, Bool.or_self, Bool.false_eq_true, if_false]
   exact Ok.ret trivial
theorem QfE {t : Task} (ht : GoodT t) {b : Int} {N : List Nogood} (h : PreC t b N) : JF t.Vars ⟨b, N⟩ = some none := by
 classical
 refine Ok.eq ?_
 unfold JF
 rw [QgA ht h]
 simp only [Option.bind_some, Option.isSome_none, Bool.false_eq_true, if_false]
 refine Ok.ctl (fun _ _ => True) (fun _ => False) trivial ?_ (fun _ h => h.elim) (fun _ _ => Ok.ret Z)
 intro i _ hi _
 obtain ⟨x, hx⟩ := Ql (xs := N) (i := i) (by omega)
 rw [Qj, hx]
 simp only [Option.bind_some]
 rw [Qdc]
 simp only [h.pv x (List.mem_of_getElem? hx), Option.bind_some, decide_true, Bool.not_true, Bool.false_eq_true, if_false]
 exact Ok.ret trivial
theorem QeB {t : Task} {c : Certificate} {st d : Int} (hl : c.Nogoods.length ≤ 4096) : Ok (Je ⟨t, c, st⟩ d) fun l => l.length ≤ 4096 ∧ ∀ p, p ∈ l ↔ ∃ n ∈ c.Nogoods, n.Dist ≤ d ∧ n.Facts = p := by
 unfold Je
 dsimp only
 refine Ok.bind (Ok.mono (P := fun l : List (List Fact) => l.length ≤ 4096 ∧ ∀ p, p ∈ l ↔ ∃ n ∈ c.Nogoods, n.Dist ≤ d ∧ n.Facts = p) ?_ fun l h => Ok.ret h)
 refine J5 (fun i (l : List (List Fact)) => l.length ≤ i ∧ ∀ p, p ∈ l ↔ ∃ n ∈ c.Nogoods.take i, n.Dist ≤ d ∧ n.Facts = p) ⟨by simp, by simp⟩ ?_ ?_
 ·rintro i l hi ⟨h1, h2⟩
  obtain ⟨x, hx⟩ := Ql (xs := c.Nogoods) (i := i) (by omega)
  rw [Qj, hx]
  simp only [Option.bind_some]
  by_cases hd : x.Dist ≤ d
  ·simp only [hd, decide_true, if_true]
   rw [K4 (by simp only [List.length_cons, List.length_nil]; omega)]
   simp only [Option.bind_some]
   refine Ok.ret ⟨by simp; omega, fun p => ?_⟩
   rw [List.mem_append, h2, Qu hx, List.mem_singleton]
   constructor
   ·rintro (⟨n, hn, h⟩ | rfl)
    ·exact ⟨n, List.mem_append_left _ hn, h⟩
    ·exact ⟨x, by simp, hd, Z⟩
   ·rintro ⟨n, hn, h⟩
    rcases List.mem_append.1 hn with q | q
    ·exact .inl ⟨n, q, h⟩
    ·rw [List.mem_singleton.1 q] at h; exact .inr h.2.symm
  ·simp only [hd, decide_false, Bool.false_eq_true, if_false, Option.bind_some]
   refine Ok.ret ⟨by omega, fun p => ?_⟩
   rw [h2, Qu hx]
   constructor
   ·rintro ⟨n, hn, h⟩; exact ⟨n, List.mem_append_left _ hn, h⟩
   ·rintro ⟨n, hn, h⟩
    rcases List.mem_append.1 hn with q | q
    ·exact ⟨n, q, h⟩
    ·rw [List.mem_singleton.1 q] at h; exact absurd h.1 hd
 ·rintro l ⟨h1, h2⟩
  rw [List.take_length] at h2
  exact ⟨by omega, h2⟩
theorem QkU {vars : List Int} (hv : vars.length ≤ 64) {p : List Fact} (hp : FactsOK vars p) {f : Fact} (hf : InR vars f) (hno : ∀ g ∈ p, ¬ g.Var = f.Var) : ∃ q, KD p f = some q ∧ FactsOK vars q ∧ q.length = p.length + 1 := by
 have hl := hp.len
 suffices h : Ok (KD p f) fun q => FactsOK vars q ∧ q.length = p.length + 1 from h
 unfold KD
 refine QbC (fun i : Int => ∃ n : Nat, i = (n : Int) ∧ n ≤ p.length ∧ ∀ g ∈ p.take n, g.Var < f.Var) (fun i => ∃ n : Nat, i = (n : Int) ∧ n ≤ p.length ∧ (∀ g ∈ p.take n, g.Var < f.Var) ∧ ∀ g ∈ p.drop n, f.Var < g.Var) (fun _ => False) (fun i => p.length - i.toNat) ⟨0, Z, Nat.zero_le _, by simp⟩ ?_ (fun _ h => h.elim) ?_
 ·rintro _ ⟨n, rfl, hn, hlt⟩
  by_cases h : n < p.length
  ·have h' : (n : Int) < (p.length : Int) := by omega
   obtain ⟨x, hx⟩ := Ql h
   simp only [h', decide_true, if_true, Qj, hx, Option.bind_some]
   by_cases hxv : x.Var < f.Var
   ·have hw : IntKind.i64.wrap ((n : Int) + 1) = ((n + 1 : Nat) : Int) := by rw [Q1 (by omega) (by omega)]; omega
    simp only [hxv, decide_true, if_true, hw]
    refine Ok.ret ⟨⟨n + 1, Z, by omega, fun g hg => ?_⟩, by simp only [Int.toNat_natCast]; omega⟩
    rw [Qu hx] at hg
    rcases List.mem_append.1 hg with q | q
    ·exact hlt g q
    ·rw [List.mem_singleton.1 q]; exact hxv
   ·simp only [hxv, decide_false, Bool.false_eq_true, if_false]
    refine Ok.ret ⟨n, Z, hn, hlt, fun g hg => ?_⟩
    have hxm := hno x (List.mem_of_getElem? hx)
    rw [Qc9 hx] at hg
    rcases List.mem_cons.1 hg with rfl | q
    ·omega
    ·obtain ⟨j, hj⟩ := List.mem_iff_getElem?.1 q
     rw [List.getElem?_drop] at hj
     have := QiM hp.o hx hj (by omega)
     omega
  ·have h' : ¬ (n : Int) < (p.length : Int) := by omega
   simp only [h', decide_false, Bool.false_eq_true, if_false, Option.bind_some]
   refine Ok.ret ⟨n, Z, hn, hlt, fun g hg => ?_⟩
   rw [List.drop_of_length_le (by omega)] at hg
   simp at hg
 ·rintro _ ⟨n, rfl, hn, h1, h2⟩
  rw [QaH (by omega)]
  simp only [Option.bind_some]
  unfold QgM
  rw [if_pos ⟨by omega, by omega, by simp; omega⟩]
  simp only [Option.bind_some, Int.toNat_natCast]
  refine Ok.ret ⟨⟨fun x hx => ?_, ?_⟩, by simp; omega⟩
  ·rcases List.mem_append.1 hx with q | q
   ·rcases List.mem_append.1 q with q | q
    ·exact hp.r x (List.mem_of_mem_take q)
    ·rw [List.mem_singleton.1 q]; exact hf
   ·exact hp.r x (List.mem_of_mem_drop q)
  ·have hpp : (p.take n ++ p.drop n).Pairwise fun a b => a.Var < b.Var := by rw [List.take_append_drop]; exact hp.o
   obtain ⟨p1, p2, p3⟩ := List.pairwise_append.1 hpp
   rw [List.append_assoc, List.pairwise_append]
   refine ⟨p1, ?_, ?_⟩
   ·rw [List.singleton_append, List.pairwise_cons]; exact ⟨h2, p2⟩
   ·intro a ha b hb
    rcases List.mem_append.1 hb with h | h
    ·rw [List.mem_singleton.1 h]; exact h1 a ha
    ·exact p3 a ha b h
theorem Qiz {vars : List Int} (hv : vars.length ≤ 64) {fu : Nat} {used st : Int} {full : Bool} {p : List Fact} {l : List (List Fact)} (hp : FactsOK vars p) (hl : ∀ x ∈ l, FactsOK vars x) (hll : l.length ≤ 1000000) (hu : used < st) (hc : ∃ x ∈ l, SubF x p) :
  Q4 (fu + 1) ⟨vars, used, st, full⟩ p l = some (true, IntKind.i64.wrap (used + 1), full) := by
 classical
 have e : ¬ st ≤ used := by omega
 refine Ok.eq ?_
 rw [Q4]
 simp only [e, decide_false, Bool.false_eq_true, if_false]
 refine Ok.ctl (fun i (r : List (List Fact)) => r.length ≤ i ∧ ∀ x ∈ l.take i, ¬ SubF x p) (fun r => r = (true, IntKind.i64.wrap (used + 1), full)) ⟨by simp, by simp⟩ ?_ (fun r h => Ok.ret h) ?_
 ·rintro i r hi ⟨hr, h⟩
  obtain ⟨x, hx⟩ := Ql (xs := l) (i := i) (by omega)
  have hxo := hl x (List.mem_of_getElem? hx)
  rw [Qj, hx]
  simp only [Option.bind_some]
  rw [Qbi hp.pv fun f hf => (hxo.pv.n f hf).2]
  simp only [Option.bind_some]
  by_cases hs : SubF x p
  ·simp only [hs, decide_true, if_true]
   exact Ok.ret Z
  ·simp only [hs, decide_false, Bool.false_eq_true, if_false]
   obtain ⟨c, hc', _⟩ := QeC (b := x) hp.pv
   rw [hc']
   simp only [Option.bind_some]
   have hn : ∀ y ∈ l.take (i + 1), ¬ SubF y p := fun y hy => by
    rw [Qu hx] at hy
    rcases List.mem_append.1 hy with q | q
    ·exact h y q
    ·rw [List.mem_singleton.1 q]; exact hs
   cases c with
   | false =>
    simp only [Bool.not_false, if_true]
    rw [K4 (by simp only [List.length_cons, List.length_nil]; omega)]
    simp only [Option.bind_some]
    exact Ok.ret ⟨by simp; omega, hn⟩
   | true =>
    simp only [Bool.not_true, Bool.false_eq_true, if_false, Option.bind_some]
    exact Ok.ret ⟨by omega, hn⟩
 ·rintro r ⟨_, h⟩
  rw [List.take_length] at h
  obtain ⟨x, hx, hs⟩ := hc
  exact absurd hs (h x hx)
theorem Qhe {vars : List Int} (hv : vars.length ≤ 64) (hd : ∀ n ∈ vars, 1 ≤ n ∧ n ≤ 64) : ∀ (fu : Nat) (used st : Int) (full : Bool) (p : List Fact) (l : List (List Fact)), FactsOK vars p → (∀ x ∈ l, FactsOK vars x) → l.length ≤ 1000000 → vars.length + 1 ≤ fu + p.length →
  Ok (Q4 fu ⟨vars, used, st, full⟩ p l) fun _ => True := by
 classical
 intro fu
 induction fu with
 | zero =>
  intro used st full p l hp _ _ hf
  have := hp.len
  omega
 | succ fu ih =>
  intro used st full p l hp hl hll hf
  rw [Q4]
  simp only
  by_cases e : st ≤ used
  ·simp only [e, decide_true, if_true]
   exact Ok.ret trivial
  simp only [e, decide_false, Bool.false_eq_true, if_false]
  refine Ok.ctl (fun i (r : List (List Fact)) => r.length ≤ i ∧ ∀ x ∈ r, x ∈ l) (fun _ => True) ⟨by simp, by simp⟩ ?_ (fun r _ => Ok.ret trivial) ?_
  ·rintro i r hi ⟨hr, h⟩
   obtain ⟨x, hx⟩ := Ql (xs := l) (i := i) (by omega)
   have hxm := List.mem_of_getElem? hx
   have hxo := hl x hxm
   rw [Qj, hx]
   simp only [Option.bind_some]
   rw [Qbi hp.pv fun f hf => (hxo.pv.n f hf).2]
   simp only [Option.bind_some]
   by_cases hs : SubF x p
   ·simp only [hs, decide_true, if_true]
    exact Ok.ret trivial
   ·simp only [hs, decide_false, Bool.false_eq_true, if_false]
    obtain ⟨c, hc', _⟩ := QeC (b := x) hp.pv
    rw [hc']
    simp only [Option.bind_some]
    cases c with
    | false =>
     simp only [Bool.not_false, if_true]
     rw [K4 (by simp only [List.length_cons, List.length_nil]; omega)]
     simp only [Option.bind_some]
     refine Ok.ret ⟨by simp; omega, fun y hy => ?_⟩
     rcases List.mem_append.1 hy with q | q
     ·exact h y q
     ·rw [List.mem_singleton.1 q]; exact hxm
    | true =>
     simp only [Bool.not_true, Bool.false_eq_true, if_false, Option.bind_some]
     exact Ok.ret ⟨by omega, h⟩
  ·rintro r ⟨hr, hrl⟩
   refine Ok.bind (Ok.mono (P := fun v : Int => v = (vars.length : Int) ∨ (0 ≤ v ∧ v < (vars.length : Int) ∧ YP p v < 0)) ?_ ?_)
   ·refine J5 (fun _ (v : Int) => v = (vars.length : Int) ∨ (0 ≤ v ∧ v < (vars.length : Int) ∧ YP p v < 0)) (.inl Z) ?_ (fun v h => h)
    rintro i v hi hvv
    obtain ⟨x, hx⟩ := Ql (xs := r) (i := i) (by omega)
    have hxo := hl x (hrl x (List.mem_of_getElem? hx))
    rw [Qj, hx]
    simp only [Option.bind_some]
    refine Ok.bind (Ok.mono (P := fun v : Int => v = (vars.length : Int) ∨ (0 ≤ v ∧ v < (vars.length : Int) ∧ YP p v < 0)) ?_ fun v h => Ok.ret h)
    refine J5 (fun _ (v : Int) => v = (vars.length : Int) ∨ (0 ≤ v ∧ v < (vars.length : Int) ∧ YP p v < 0)) hvv ?_ (fun v h => h)
    rintro j w hj hw
    obtain ⟨f, hf⟩ := Ql (xs := x) (i := j) (by omega)
    have hfr := hxo.r f (List.mem_of_getElem? hf)
    rw [Qj, hf]
    simp only [Option.bind_some]
    by_cases hlt : f.Var < w
    ·simp only [hlt, decide_true, if_true, QgU, Option.bind_some]
     by_cases hneg : YP p f.Var < 0
     ·simp only [hneg, decide_true, if_true, Option.bind_some]
      exact Ok.ret (.inr ⟨hfr.1, hfr.2.1, hneg⟩)
     ·simp only [hneg, decide_false, Bool.false_eq_true, if_false, Option.bind_some]
      exact Ok.ret hw
    ·simp only [hlt, decide_false, Bool.false_eq_true, if_false, Option.bind_some]
     exact Ok.ret hw
   ·rintro v hv'
    by_cases hvl : v = (vars.length : Int)
    ·simp only [hvl, decide_true, if_true]
     exact Ok.ret trivial
    ·obtain ⟨h0, h1, h2⟩ := hv'.resolve_left hvl
     simp only [hvl, decide_false, Bool.false_eq_true, if_false]
     obtain ⟨d, hdv⟩ := Ql (xs := vars) (i := v.toNat) (by omega)
     have hdd := hd d (List.mem_of_getElem? hdv)
     rw [QeT h0 h1, hdv]
     simp only [Option.bind_some, Option.getD_some]
     refine Ok.must (by simp; omega) ?_
     refine Ok.ctl (fun _ (s : List (List Fact) × Int × Bool) => s.1 = r) (fun _ => True) Z ?_ (fun r _ => Ok.ret trivial) (fun s _ => Ok.ret trivial)
     rintro j ⟨r', z1, z2⟩ hj hr'
     simp only at hr'
     subst hr'
     simp only [K3]
     have hno : ∀ g ∈ p, ¬ g.Var = v := fun g hg e => by
      have := Qeh hp.pv hg
      rw [e] at this
      have := (hp.pv.n g hg).2
      omega
     obtain ⟨q, hq, hqo, hql⟩ := QkU hv hp (f := ⟨v, (j : Int)⟩) ⟨h0, h1, (show (0 : Int) ≤ (j : Int) by omega), by rw [hdv]; simp; omega⟩ hno
     rw [hq]
     simp only [Option.bind_some]
     obtain ⟨rr, hrr, _⟩ := ih z1 st z2 q r' hqo (fun x hx => hl x (hrl x hx)) (by omega) (by omega)
     rw [hrr]
     obtain ⟨y1, y2, y3⟩ := rr
     simp only [Option.bind_some, K3]
     cases y1 with
     | false => simp only [Bool.not_false, if_true]; exact Ok.ret trivial
     | true => simp only [Bool.not_true, Bool.false_eq_true, if_false]; exact Ok.ret rfl
theorem Qg6 {vars : List Int} {l : List (List Fact)} (hl : ∀ x ∈ l, FactsOK vars x) : KF l vars = some false := by
 classical
 unfold KF
 have : JQ l vars = some (-1) := by
  refine Ok.eq ?_
  unfold JQ
  refine Ok.ctl (fun _ _ => True) (fun _ => False) trivial ?_ (fun _ h => h.elim) (fun _ _ => Ok.ret Z)
  intro i _ hi _
  obtain ⟨x, hx⟩ := Ql (xs := l) (i := i) (by omega)
  rw [Qj, hx]
  simp only [Option.bind_some]
  unfold K0
  rw [Qdc]
  simp only [hl x (List.mem_of_getElem? hx), decide_true, Bool.not_true, Option.bind_some, Bool.false_eq_true, if_false]
  exact Ok.ret trivial
 rw [this]; rfl
section
variable {t : Task} (ht : ShortT t) {b : Int} {N : List Nogood} (hc : PreC t b N)
include ht hc
theorem Qe9 {fu : Nat} {st d : Int} (hs : 1 ≤ st) (hs' : st ≤ 1099511627776) {p : List Fact} (hp : FactsOK t.Vars p) (hh : ∃ n ∈ N, n.Dist ≤ d ∧ SubF n.Facts p) :
  Qx (fu + 1) ⟨t, ⟨b, N⟩, st⟩ p d = some (true, none, st - 1) := by
 classical
 obtain ⟨l, hl, hll, hm⟩ := QeB (t := t) (c := ⟨b, N⟩) (st := st) (d := d) hc.len
 have hlo : ∀ x ∈ l, FactsOK t.Vars x := fun x hx => by
  obtain ⟨n, hn, _, rfl⟩ := (hm x).1 hx
  exact hc.pv n hn
 obtain ⟨n, hn, h1, h2⟩ := hh
 unfold Qx
 rw [hl]
 simp only [Option.bind_some]
 unfold Kw
 rw [Qdc, Qg6 hlo]
 simp only [hp, decide_true, Bool.not_true, Bool.false_eq_true, if_false, Option.bind_some]
 rw [Qiz ht.g.nv hp hlo (by omega) (by omega) ⟨n.Facts, (hm _).2 ⟨n, hn, h1, rfl⟩, h2⟩]
 have e1 : IntKind.i64.wrap (0 + 1) = 1 := rfl
 simp only [Option.bind_some, K3, Bool.false_eq_true, if_false, Option.isSome_none, e1]
 rw [Q1 (by omega) (by omega)]
theorem QcR {fu : Nat} (hfu : t.Vars.length + 1 ≤ fu) {st d : Int} {p : List Fact} (hp : FactsOK t.Vars p) : Ok (Qx fu ⟨t, ⟨b, N⟩, st⟩ p d) fun _ => True := by
 classical
 obtain ⟨l, hl, hll, hm⟩ := QeB (t := t) (c := ⟨b, N⟩) (st := st) (d := d) hc.len
 have hlo : ∀ x ∈ l, FactsOK t.Vars x := fun x hx => by
  obtain ⟨n, hn, _, rfl⟩ := (hm x).1 hx
  exact hc.pv n hn
 unfold Qx
 rw [hl]
 simp only [Option.bind_some]
 unfold Kw
 rw [Qdc, Qg6 hlo]
 simp only [hp, decide_true, Bool.not_true, Bool.false_eq_true, if_false, Option.bind_some]
 obtain ⟨r, hr, _⟩ := Qhe ht.g.nv ht.g.v fu 0 st false p l hp hlo (by omega) (by omega)
 rw [hr]
 obtain ⟨y1, y2, y3⟩ := r
 simp only [Option.bind_some, K3]
 cases y3 with
 | true => simp only [if_true, Option.bind_some, K3, Option.isSome_some]; exact Ok.ret trivial
 | false => simp only [Bool.false_eq_true, if_false, Option.bind_some, K3, Option.isSome_none]; exact Ok.ret trivial
end
end Go.Pw
/- -/
set_option maxHeartbeats 8000000
namespace Go.Pw
theorem ClosedC.pre {t : Task} {M : Nat} (hM : Cap t.Vars M) (hM' : M ≤ 1000) {b : Int} (hb0 : -1 ≤ b) (hb1 : b ≤ 1099511627776) {N : List Nogood} (h : ClosedC t b N) : PreC t b N ∧ N.length ≤ M := by
 have := hM (N.map (·.Facts)) h.nd fun p hp => by
  obtain ⟨n, hn, rfl⟩ := List.mem_map.1 hp
  exact h.pv n hn
 rw [List.length_map] at this
 exact ⟨⟨hb0, hb1, by omega, h.pv, h.ds⟩, this⟩
section
variable {t : Task} (ht : ShortT t) {M : Nat} (hM : Cap t.Vars M) (hM' : M ≤ 1000) {b : Int} {N : List Nogood} (hp : PreC t b N)
include ht hM hM' hp
omit hM hM' in
theorem QfF {fu sn : Nat} (hs : sn ≤ 1048576) {d : Int} {l : List (List Fact)} (hl : ∀ q ∈ l, FactsOK t.Vars q) (hlen : l.length ≤ sn) (hc : ∀ q ∈ l, ∃ m ∈ N, m.Dist ≤ d ∧ SubF m.Facts q) :
  ctl (QI (R := ((Option Int) × Int)) (fun i100 => fun (z100 : Int) => (QD l (i100 : Int)).bind fun x102 =>
   (Qx (fu + 1) (⟨t, ⟨b, N⟩, z100⟩ : checker_checker) x102 d).bind <| K3 fun (y102 : Bool) (y103 : (Option Int)) (z101 : Int) =>
   if y103.isSome then (some (Ctl.ret (y103, z101)))
   else (if !y102 then (some (Ctl.ret (some 19, z101)))
   else (some (Ctl.next z101)))) (l.length) 0 (sn : Int)) (fun r => some r) (fun (z102 : Int) => some (none, z102)) = some (none, ((sn - l.length : Nat) : Int)) := by
 refine Ok.eq ?_
 refine Ok.ctl (fun i (z : Int) => z = ((sn - i : Nat) : Int)) (fun _ => False) (by simp) ?_ (fun _ h => h.elim) (fun z h => Ok.ret (by rw [h]))
 rintro i z hi rfl
 obtain ⟨q, hq⟩ := Ql (xs := l) (i := i) (by omega)
 have hqm := List.mem_of_getElem? hq
 rw [Qj, hq]
 simp only [Option.bind_some]
 rw [Qe9 ht hp (by omega) (by omega) (hl q hqm) (hc q hqm)]
 simp only [Option.bind_some, K3, Option.isSome_none, Bool.false_eq_true, if_false, Bool.not_true]
 exact Ok.ret (show ((sn - i : Nat) : Int) - 1 = ((sn - (i + 1) : Nat) : Int) by omega)
omit hM hM' in
theorem QeA {fu : Nat} (hfu : t.Vars.length + 1 ≤ fu) {d s0 : Int} {l : List (List Fact)} (hl : ∀ q ∈ l, FactsOK t.Vars q) :
  Ok (ctl (QI (R := ((Option Int) × Int)) (fun i100 => fun (z100 : Int) => (QD l (i100 : Int)).bind fun x102 =>
   (Qx fu (⟨t, ⟨b, N⟩, z100⟩ : checker_checker) x102 d).bind <| K3 fun (y102 : Bool) (y103 : (Option Int)) (z101 : Int) =>
   if y103.isSome then (some (Ctl.ret (y103, z101)))
   else (if !y102 then (some (Ctl.ret (some 19, z101)))
   else (some (Ctl.next z101)))) (l.length) 0 s0) (fun r => some r) (fun (z102 : Int) => some (none, z102))) fun _ => True := by
 refine Ok.ctl (fun _ _ => True) (fun _ => True) trivial ?_ (fun r _ => Ok.ret trivial) (fun z _ => Ok.ret trivial)
 rintro i z hi _
 obtain ⟨q, hq⟩ := Ql (xs := l) (i := i) (by omega)
 rw [Qj, hq]
 simp only [Option.bind_some]
 obtain ⟨⟨y1, y2, y3⟩, hr, _⟩ := QcR ht hp hfu (st := z) (d := d) (hl q (List.mem_of_getElem? hq))
 rw [hr]
 simp only [Option.bind_some, K3]
 cases y2 with
 | some _ => simp only [Option.isSome_some, if_true]; exact Ok.ret trivial
 | none =>
  simp only [Option.isSome_none, Bool.false_eq_true, if_false]
  cases y1 with
  | true => simp only [Bool.not_true, Bool.false_eq_true, if_false]; exact Ok.ret trivial
  | false => simp only [Bool.not_false, if_true]; exact Ok.ret trivial
theorem Qkk (hcl : ClosedC t b N) {fu sn : Nat} (hs : sn ≤ 1048576) (hsM : M ≤ sn) {n : Nogood} (hn : n ∈ N) {i : Nat} {o : Op} (ho : t.Ops[i]? = some o) :
  ∃ rn : Nat, Q7 (fu + 1) ⟨t, ⟨b, N⟩, (sn : Int)⟩ n (i : Int) = some (none, (rn : Int)) ∧ sn ≤ rn + M ∧ rn ≤ sn := by
 have hop := ht.g.op o (List.mem_of_getElem? ho)
 have hc0 := hop.c0
 have hc1 := hop.c1
 have hd := hp.ds n hn
 have hdz := hd.z
 obtain ⟨l, hl, hR⟩ := QbE ht hM hM' ho (hp.pv n hn)
 have hll := hM l hR.nd hR.ok
 unfold Q7
 by_cases hb : 0 ≤ b
 ·have hdb := hd.p hb
  have hb1 := hp.b1
  have hw : IntKind.i64.wrap (n.Dist + o.Cost) = n.Dist + o.Cost := Q1 (by omega) (by omega)
  have hio : QD t.Ops (i : Int) = some o := by rw [Qj]; exact ho
  simp only [hb, decide_true, if_true, hio, Option.bind_some, hw]
  by_cases hk : b ≤ n.Dist + o.Cost
  ·simp only [hk, decide_true, if_true]
   exact ⟨sn, Z, by omega, Nat.le_refl _⟩
  ·simp only [hk, decide_false, Bool.false_eq_true, if_false, hl, Option.bind_some, QK, Option.isSome_none]
   have hnd : Go.Pw.nd b n.Dist o.Cost = n.Dist + o.Cost := by unfold Go.Pw.nd; rw [if_neg (by omega)]
   rw [QfF ht hp hs hR.ok (by omega) fun q hq => by rw [← hnd]; exact hcl.step n hn i o ho (fun h => hk h.2) l hl q hq]
   exact ⟨sn - l.length, Z, by omega, by omega⟩
 ·simp only [hb, decide_false, Bool.false_eq_true, if_false, hl, Option.bind_some, QK, Option.isSome_none]
  have hnd : Go.Pw.nd b n.Dist o.Cost = 0 := by unfold Go.Pw.nd; rw [if_pos (by omega)]
  rw [QfF ht hp hs hR.ok (by omega) fun q hq => by rw [← hnd]; exact hcl.step n hn i o ho (fun h => hb h.1) l hl q hq]
  exact ⟨sn - l.length, Z, by omega, by omega⟩
theorem Qis {fu : Nat} (hfu : t.Vars.length + 1 ≤ fu) {s0 : Int} {n : Nogood} (hn : n ∈ N) {i : Nat} {o : Op} (ho : t.Ops[i]? = some o) :
  Ok (Q7 fu ⟨t, ⟨b, N⟩, s0⟩ n (i : Int)) fun _ => True := by
 obtain ⟨l, hl, hR⟩ := QbE ht hM hM' ho (hp.pv n hn)
 unfold Q7
 by_cases hb : 0 ≤ b
 ·have hio : QD t.Ops (i : Int) = some o := by rw [Qj]; exact ho
  simp only [hb, decide_true, if_true, hio, Option.bind_some]
  by_cases hk : b ≤ IntKind.i64.wrap (n.Dist + o.Cost)
  ·simp only [hk, decide_true, if_true]; exact Ok.ret trivial
  ·simp only [hk, decide_false, Bool.false_eq_true, if_false, hl, Option.bind_some, QK, Option.isSome_none]
   exact QeA ht hp hfu hR.ok
 ·simp only [hb, decide_false, Bool.false_eq_true, if_false, hl, Option.bind_some, QK, Option.isSome_none]
  exact QeA ht hp hfu hR.ok
theorem Qfz (hcl : ClosedC t b N) {fu sn : Nat} (hs : sn ≤ 1048576) (hb : N.length * (t.Ops.length * M) ≤ sn) :
  ctl (QI (R := (Int × Int × (Option Int))) (fun i101 => fun (z101 : Int) => (QD N (i101 : Int)).bind fun x101 =>
   ctl (QI (R := (Int × Int × (Option Int))) (fun i102 => fun (z102 : Int) => (Q7 (fu + 1) (⟨t, ⟨b, N⟩, z102⟩ : checker_checker) x101 (i102 : Int)).bind <| QK fun (y105 : (Option Int)) (z103 : Int) =>
   if y105.isSome then (some (Ctl.ret ((i101 : Int), (i102 : Int), y105)))
   else (some (Ctl.next z103))) (t.Ops.length) 0 z101) (fun r => some (Ctl.ret r)) (fun (z104 : Int) => some (Ctl.next z104))) (N.length) 0 (sn : Int)) (fun r => some r) (fun (z105 : Int) => some ((-1), (-1), none)) = some ((-1 : Int), (-1 : Int), (none : Option Int)) := by
 refine Ok.eq ?_
 generalize hA : t.Ops.length * M = A at hb
 refine Ok.ctl (fun i (z : Int) => ∃ zn : Nat, z = (zn : Int) ∧ zn ≤ 1048576 ∧ (N.length - i) * A ≤ zn) (fun _ => False) ⟨sn, Z, hs, by simpa using hb⟩ ?_ (fun _ h => h.elim) (fun z h => Ok.ret Z)
 rintro i z hi ⟨zn, rfl, h1, h2⟩
 obtain ⟨n, hn⟩ := Ql (xs := N) (i := i) (by omega)
 have hnm := List.mem_of_getElem? hn
 have e1 : (N.length - i) * A = (N.length - (i + 1)) * A + A := by rw [← Nat.succ_mul]; congr 1; omega
 rw [Qj, hn]
 simp only [Option.bind_some]
 refine Ok.ctl (fun j (z : Int) => ∃ zn : Nat, z = (zn : Int) ∧ zn ≤ 1048576 ∧ (N.length - (i + 1)) * A + (t.Ops.length - j) * M ≤ zn) (fun _ => False) ⟨zn, Z, h1, by rw [Nat.sub_zero, hA]; omega⟩ ?_ (fun _ h => h.elim) ?_
 ·rintro j z hj ⟨yn, rfl, h3, h4⟩
  obtain ⟨o, ho⟩ := Ql (xs := t.Ops) (i := j) (by omega)
  have e2 : (t.Ops.length - j) * M = (t.Ops.length - (j + 1)) * M + M := by rw [← Nat.succ_mul]; congr 1; omega
  obtain ⟨rn, hr, h5, h6⟩ := Qkk ht hM hM' hp hcl (fu := fu) h3 (by omega) hnm ho
  rw [hr]
  simp only [Option.bind_some, QK, Option.isSome_none, Bool.false_eq_true, if_false]
  exact Ok.ret ⟨rn, Z, by omega, by omega⟩
 ·rintro z ⟨yn, rfl, h3, h4⟩
  exact Ok.ret ⟨yn, Z, h3, by omega⟩
theorem Qe2 {fu : Nat} (hfu : t.Vars.length + 1 ≤ fu) {s0 : Int} :
  Ok (ctl (QI (R := (Int × Int × (Option Int))) (fun i101 => fun (z101 : Int) => (QD N (i101 : Int)).bind fun x101 =>
   ctl (QI (R := (Int × Int × (Option Int))) (fun i102 => fun (z102 : Int) => (Q7 fu (⟨t, ⟨b, N⟩, z102⟩ : checker_checker) x101 (i102 : Int)).bind <| QK fun (y105 : (Option Int)) (z103 : Int) =>
   if y105.isSome then (some (Ctl.ret ((i101 : Int), (i102 : Int), y105)))
   else (some (Ctl.next z103))) (t.Ops.length) 0 z101) (fun r => some (Ctl.ret r)) (fun (z104 : Int) => some (Ctl.next z104))) (N.length) 0 s0) (fun r => some r) (fun (z105 : Int) => some ((-1), (-1), (none : Option Int)))) fun _ => True := by
 refine Ok.ctl (fun _ _ => True) (fun _ => True) trivial ?_ (fun _ _ => Ok.ret trivial) (fun z _ => Ok.ret trivial)
 rintro i z hi _
 obtain ⟨n, hn⟩ := Ql (xs := N) (i := i) (by omega)
 rw [Qj, hn]
 simp only [Option.bind_some]
 refine Ok.ctl (fun _ _ => True) (fun _ => True) trivial ?_ (fun _ _ => Ok.ret trivial) (fun z _ => Ok.ret trivial)
 rintro j z hj _
 obtain ⟨o, ho⟩ := Ql (xs := t.Ops) (i := j) (by omega)
 obtain ⟨⟨y1, y2⟩, hr, _⟩ := Qis ht hM hM' hp hfu (s0 := z) (List.mem_of_getElem? hn) ho
 rw [hr]
 simp only [Option.bind_some, QK]
 cases y1 with
 | some _ => simp only [Option.isSome_some, if_true]; exact Ok.ret trivial
 | none => simp only [Option.isSome_none, Bool.false_eq_true, if_false]; exact Ok.ret trivial
theorem Qbs (hcl : ClosedC t b N) {fu : Nat} {S : Int} (hS : ((1 + N.length * (t.Ops.length * M) : Nat) : Int) ≤ S) (hS' : 1 + N.length * (t.Ops.length * M) ≤ 1048576) :
  Qq (fu + 1) t ⟨b, N⟩ S = some none := by
 unfold Qq KU
 rw [QbK ht.g, QfE ht.g hp]
 simp only [Option.bind_some, Option.isSome_none, Bool.false_eq_true, if_false]
 obtain ⟨sn, hsn, hs1, hs2⟩ : ∃ sn : Nat, max 0 (min S 1048576) = (sn : Int) ∧ sn ≤ 1048576 ∧ 1 + N.length * (t.Ops.length * M) ≤ sn := ⟨(max 0 (min S 1048576)).toNat, by omega, by omega, by omega⟩
 rw [hsn]
 refine Ok.eq (Ok.bind (Ok.mono (P := fun r => r = ((-1 : Int), (-1 : Int), (none : Option Int))) ?_ ?_))
 ·refine Ok.ctl (fun _ _ => True) (fun _ => False) trivial ?_ (fun _ h => h.elim) (fun _ _ => ?_)
  ·intro i _ hi _
   obtain ⟨n, hn⟩ := Ql (xs := N) (i := i) (by omega)
   have hnm := List.mem_of_getElem? hn
   rw [Qj, hn]
   simp only [Option.bind_some]
   obtain ⟨bh, hbh, hh⟩ := Qfn (hp.pv n hnm) ht.g.init.len
   rw [hbh]
   simp only [Option.bind_some]
   cases bh with
   | true => exact absurd (hh.1 rfl) (hcl.ni n hnm)
   | false => simp only [Bool.false_eq_true, if_false]; exact Ok.ret trivial
  ·by_cases hz : b = 0
   ·simp only [hz, decide_true, Bool.not_true, Bool.false_eq_true, if_false]
    rw [← hz]
    exact QiB (Qfz ht hM hM' hp hcl hs1 (by omega)) Z
   ·simp only [hz, decide_false, Bool.not_false, if_true]
    obtain ⟨n, hn, h1, h2⟩ := hcl.goal hz
    rw [Qe9 ht hp (by omega) (by omega) ht.g.goal ⟨n, hn, by omega, h2⟩]
    simp only [Option.bind_some, K3, Option.isSome_none, Bool.false_eq_true, if_false, Bool.not_true]
    have e : (sn : Int) - 1 = ((sn - 1 : Nat) : Int) := by omega
    rw [e]
    exact QiB (Qfz ht hM hM' hp hcl (by omega) (by omega)) Z
 ·rintro r rfl
  exact Ok.ret Z
theorem QdD {fu : Nat} (hfu : t.Vars.length + 1 ≤ fu) {S : Int} : Ok (Qq fu t ⟨b, N⟩ S) fun _ => True := by
 unfold Qq KU
 rw [QbK ht.g, QfE ht.g hp]
 simp only [Option.bind_some, Option.isSome_none, Bool.false_eq_true, if_false]
 refine Ok.bind (Ok.mono (P := fun _ => True) ?_ ?_)
 ·refine Ok.ctl (fun _ _ => True) (fun _ => True) trivial ?_ (fun _ _ => Ok.ret trivial) (fun _ _ => ?_)
  ·intro i _ hi _
   obtain ⟨n, hn⟩ := Ql (xs := N) (i := i) (by omega)
   have hnm := List.mem_of_getElem? hn
   rw [Qj, hn]
   simp only [Option.bind_some]
   obtain ⟨bh, hbh, hh⟩ := Qfn (hp.pv n hnm) ht.g.init.len
   rw [hbh]
   simp only [Option.bind_some]
   cases bh with
   | true => simp only [if_true]; exact Ok.ret trivial
   | false => simp only [Bool.false_eq_true, if_false]; exact Ok.ret trivial
  ·by_cases hz : b = 0
   ·simp only [hz, decide_true, Bool.not_true, Bool.false_eq_true, if_false]
    rw [← hz]
    exact Qe2 ht hM hM' hp hfu
   ·simp only [hz, decide_false, Bool.not_false, if_true]
    obtain ⟨⟨y1, y2, y3⟩, hr, _⟩ := QcR ht hp hfu (st := max 0 (min S 1048576)) (d := 0) ht.g.goal
    rw [hr]
    simp only [Option.bind_some, K3]
    cases y2 with
    | some _ => simp only [Option.isSome_some, if_true]; exact Ok.ret trivial
    | none =>
     simp only [Option.isSome_none, Bool.false_eq_true, if_false]
     cases y1 with
     | false => simp only [Bool.not_false, if_true]; exact Ok.ret trivial
     | true =>
      simp only [Bool.not_true, Bool.false_eq_true, if_false]
      exact Qe2 ht hM hM' hp hfu
 ·rintro ⟨a, b, c⟩ _
  exact Ok.ret trivial
end
/-! ### weakening -/
theorem FactsOK.sub {vars : List Int} {p q : List Fact} (h : FactsOK vars p) (hs : q.Sublist p) : FactsOK vars q := ⟨fun x hx => h.r x (hs.subset hx), h.o.sublist hs⟩
theorem Qh9 {α : Type} (l : List α) (k : Nat) : l.take k ++ l.drop (k + 1) = l.eraseIdx k := (List.eraseIdx_eq_take_drop_succ l k).symm
theorem Qek {t : Task} (ht : GoodT t) {b : Int} {N : List Nogood} (h : PreC t b N) : J3 ⟨b, N⟩ = some ⟨b, N⟩ := by
 refine Ok.eq ?_
 unfold J3
 dsimp only
 have hl := h.len
 have hv := ht.nv
 refine Ok.bind (Ok.mono (P := fun l => l = N) ?_ fun l h => by rw [h]; exact Ok.ret Z)
 refine J5 (fun i (l : List Nogood) => l = N.take i) Z ?_ (fun l h => by rw [h, List.take_length])
 rintro i l hi rfl
 obtain ⟨n, hn⟩ := Ql (xs := N) (i := i) (by omega)
 have := (h.pv n (List.mem_of_getElem? hn)).len
 rw [Qj, hn]
 simp only [Option.bind_some]
 rw [QaH (by omega)]
 simp only [Option.bind_some]
 rw [K4 (by simp only [List.length_cons, List.length_nil, List.length_take]; omega)]
 simp only [Option.bind_some]
 exact Ok.ret (by rw [Qu hn])
theorem Qjk {t : Task} (ht : ShortT t) {M : Nat} (hM : Cap t.Vars M) (hM' : M ≤ 1000) {b : Int} {N : List Nogood} (hp : PreC t b N) {fu : Nat} (hfu : t.Vars.length + 1 ≤ fu) {S : Int} (hV : Qq fu t ⟨b, N⟩ S = some none) :
  Ok (J4 fu t ⟨b, N⟩ S) fun r => r.1 = none ∧ r.2.Bound = b ∧ Qq fu t r.2 S = some none := by
 unfold J4
 rw [hV, Qek ht.g hp]
 simp only [Option.bind_some, Option.isSome_none, Bool.false_eq_true, if_false]
 have hv := ht.g.nv
 refine Ok.bind (Ok.mono (P := fun s : Int × List Nogood => s.1 = b ∧ PreC t b s.2 ∧ Qq fu t ⟨b, s.2⟩ S = some none) ?_ ?_)
 ·refine J5 (fun i (s : Int × List Nogood) => s.1 = b ∧ s.2.length = N.length ∧ PreC t b s.2 ∧ Qq fu t ⟨b, s.2⟩ S = some none) ⟨Z, Z, hp, hV⟩ ?_ (fun s h => ⟨h.1, h.2.2⟩)
  rintro i ⟨z, L⟩ hi ⟨hz, hL, hPL, hVL⟩
  simp only at hz hL hPL hVL
  subst hz
  simp only [QK]
  refine QbC (fun s : Int × Int × List Nogood => ∃ k : Nat, s.1 = (k : Int) ∧ s.2.1 = z ∧ s.2.2.length = N.length ∧ PreC t z s.2.2 ∧ Qq fu t ⟨z, s.2.2⟩ S = some none) (fun s => s.2.1 = z ∧ s.2.2.length = N.length ∧ PreC t z s.2.2 ∧ Qq fu t ⟨z, s.2.2⟩ S = some none) (fun _ => False) (fun s => ((s.2.2[i]?.map (fun n => n.Facts.length)).getD 0) - s.1.toNat) ⟨0, Z, Z, hL, hPL, hVL⟩ ?_ (fun _ h => h.elim) (fun s h => Ok.ret h)
  rintro ⟨kk, z', L'⟩ ⟨k, h1, h2, h3, h4, h5⟩
  simp only at h1 h2 h3 h4 h5
  subst h1 h2
  obtain ⟨x, hx⟩ := Ql (xs := L') (i := i) (by omega)
  have hxo := h4.pv x (List.mem_of_getElem? hx)
  have hxl := hxo.len
  simp only [K3, Qj, hx, Option.bind_some]
  by_cases hk : k < x.Facts.length
  ·have hk' : (k : Int) < (x.Facts.length : Int) := by omega
   have hw : IntKind.i64.wrap ((k : Int) + 1) = ((k + 1 : Nat) : Int) := by rw [Q1 (by omega) (by omega)]; omega
   have hdel : Qfi x.Facts (k : Int) ((k + 1 : Nat) : Int) = some (x.Facts.eraseIdx k) := by
    unfold Qfi
    rw [if_pos ⟨by omega, by omega, by omega, by omega⟩]
    simp only [Int.toNat_natCast, Qh9]
   simp only [hk', decide_true, if_true]
   rw [Qek ht.g h4]
   simp only [Option.bind_some, Qj, hx, hw, hdel]
   rw [YR (by omega)]
   simp only [Option.bind_some]
   have hP' : PreC t z' (L'.set i { x with Facts := x.Facts.eraseIdx k }) := by
    refine ⟨h4.b0, h4.b1, by rw [List.length_set]; exact h4.len, fun n hn => ?_, fun n hn => ?_⟩
    ·rcases List.mem_or_eq_of_mem_set hn with q | rfl
     ·exact h4.pv n q
     ·exact hxo.sub (List.eraseIdx_sublist _ _)
    ·rcases List.mem_or_eq_of_mem_set hn with q | rfl
     ·exact h4.ds n q
     ·exact h4.ds x (List.mem_of_getElem? hx)
   obtain ⟨e, he, _⟩ := QdD ht hM hM' hP' hfu (S := S)
   rw [he]
   simp only [Option.bind_some]
   cases e with
   | none =>
    simp only [Option.isNone_none, if_true, Option.bind_some]
    refine Ok.ret ⟨⟨k, Z, Z, by rw [List.length_set]; exact h3, hP', he⟩, ?_⟩
    simp only [Int.toNat_natCast]
    rw [List.getElem?_set_self (by omega), hx]
    simp only [Option.map_some, Option.getD_some, List.length_eraseIdx]
    rw [if_pos hk]; omega
   | some ev =>
    simp only [Option.isNone_some, Bool.false_eq_true, if_false, Option.bind_some]
    refine Ok.ret ⟨⟨k + 1, Z, Z, h3, h4, h5⟩, ?_⟩
    simp only [Int.toNat_natCast]
    rw [hx]
    simp only [Option.map_some, Option.getD_some]
    omega
  ·have hk' : ¬ (k : Int) < (x.Facts.length : Int) := by omega
   simp only [hk', decide_false, Bool.false_eq_true, if_false]
   exact Ok.ret ⟨Z, h3, h4, h5⟩
 ·rintro ⟨z, L⟩ ⟨hz, hPL, hVL⟩
  simp only at hz hPL hVL
  subst hz
  simp only [QK]
  refine QbC (fun s : Int × Int × List Nogood => ∃ k : Nat, s.1 = (k : Int) ∧ s.2.1 = z ∧ PreC t z s.2.2 ∧ Qq fu t ⟨z, s.2.2⟩ S = some none) (fun s => s.2.1 = z ∧ PreC t z s.2.2 ∧ Qq fu t ⟨z, s.2.2⟩ S = some none) (fun _ => False) (fun s => s.2.2.length - s.1.toNat) ⟨0, Z, Z, hPL, hVL⟩ ?_ (fun _ h => h.elim) ?_
  ·rintro ⟨kk, z', L'⟩ ⟨k, h1, h2, h4, h5⟩
   simp only at h1 h2 h4 h5
   subst h1 h2
   have hll := h4.len
   simp only [K3]
   by_cases hk : k < L'.length
   ·have hk' : (k : Int) < (L'.length : Int) := by omega
    have hw : IntKind.i64.wrap ((k : Int) + 1) = ((k + 1 : Nat) : Int) := by rw [Q1 (by omega) (by omega)]; omega
    have hdel : Qfh L' (k : Int) ((k + 1 : Nat) : Int) = some (L'.eraseIdx k) := by
     unfold Qfh
     rw [if_pos ⟨by omega, by omega, by omega, by omega⟩]
     simp only [Int.toNat_natCast, Qh9]
    simp only [hk', decide_true, if_true]
    rw [Qek ht.g h4]
    simp only [Option.bind_some, hw, hdel]
    have hP' : PreC t z' (L'.eraseIdx k) := by
     refine ⟨h4.b0, h4.b1, by rw [List.length_eraseIdx]; split <;> omega, fun n hn => h4.pv n ((List.eraseIdx_sublist _ _).subset hn), fun n hn => h4.ds n ((List.eraseIdx_sublist _ _).subset hn)⟩
    obtain ⟨e, he, _⟩ := QdD ht hM hM' hP' hfu (S := S)
    rw [he]
    simp only [Option.bind_some]
    cases e with
    | none =>
     simp only [Option.isNone_none, if_true, Option.bind_some]
     refine Ok.ret ⟨⟨k, Z, Z, hP', he⟩, ?_⟩
     simp only [Int.toNat_natCast, List.length_eraseIdx]
     rw [if_pos hk]; omega
    | some ev =>
     simp only [Option.isNone_some, Bool.false_eq_true, if_false, Option.bind_some]
     refine Ok.ret ⟨⟨k + 1, Z, Z, h4, h5⟩, ?_⟩
     simp only [Int.toNat_natCast]
     omega
   ·have hk' : ¬ (k : Int) < (L'.length : Int) := by omega
    simp only [hk', decide_false, Bool.false_eq_true, if_false]
    exact Ok.ret ⟨Z, h4, h5⟩
  ·rintro ⟨kk, z', L'⟩ ⟨h1, h2, h3⟩
   simp only at h1 h2 h3
   subst h1
   exact Ok.ret ⟨Z, Z, h3⟩
end Go.Pw
