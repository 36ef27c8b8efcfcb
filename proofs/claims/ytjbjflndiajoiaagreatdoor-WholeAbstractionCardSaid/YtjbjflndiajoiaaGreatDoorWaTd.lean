/- -/
import Derived.Test.YtjbjflndiajoiaaGreatDoorWaTb
import Derived.Test.YtjbjflndiajoiaaGreatDoorWaTa
import Derived.Test.YtjbjflndiajoiaaGreatDoorBB
set_option maxHeartbeats 8000000
set_option linter.unusedSimpArgs false
set_option linter.unusedVariables false
namespace Go.Pw
noncomputable def aP (t : Task) (p : List Int) (o : Op) (s : List Int) : Int := Qbe t.Vars p.reverse (fun w => QcT o.Effs w s)
def TP (t : Task) (o : Op) (p : List Int) (a b : Int) : Prop := ∃ σ, StateOK t.Vars σ ∧ nP t p σ = a ∧ Ki o.Pre σ ∧ b = aP t p o σ
theorem Qou {t : Task} (ht : GoodT t) {p : List Int} (hp : PatOK t p) {a : Int} (ha0 : 0 ≤ a) (ha1 : a < JW (p.map (Ka t.Vars))) {s : List Int} (hs : StateOK t.Vars s) :
  StateOK t.Vars (QbD t.Vars p.reverse s a) ∧ nP t p (QbD t.Vars p.reverse s a) = a ∧ ∀ w : Int, 0 ≤ w → w ∉ p → (QbD t.Vars p.reverse s a)[w.toNat]? = s[w.toNat]? := by
 have hprem : ∀ x ∈ p.reverse, 0 ≤ x ∧ x.toNat < s.length ∧ 1 ≤ Ka t.Vars x := by
  intro x hx
  have h := hp.rev.r x hx
  exact ⟨h.1, by rw [hs.len]; omega, (Y6 ht.v h.1 h.2).1⟩
 have hout : ∀ w : Int, 0 ≤ w → w ∉ p → (QbD t.Vars p.reverse s a)[w.toNat]? = s[w.toNat]? := by
  intro w h0 hw
  refine Qel (fun x hx => (hprem x hx).1) ?_
  rw [Int.toNat_of_nonneg h0]
  exact fun h => hw (List.mem_reverse.1 h)
 refine ⟨⟨by rw [Qkl, hs.len], fun j x d hx hd => ?_⟩, Qkn hp.rev.n hprem ha0 (by rw [Qju]; exact ha1), hout⟩
 have hjl := (List.getElem?_eq_some_iff.1 hd).1
 have hdj := Qj2 hjl
 rw [hd] at hdj
 have hdj := Zu hdj
 by_cases hm : (j : Int) ∈ p
 ·obtain ⟨y, hy, h0, h1⟩ := QlE (vars := t.Vars) (s := s) (k := a) hp.rev.n hprem (j : Int) (List.mem_reverse.2 hm)
  rw [Int.toNat_natCast, hx] at hy
  cases hy
  omega
 ·have := hout (j : Int) (by omega) hm
  rw [Int.toNat_natCast] at this
  rw [this] at hx
  exact hs.r j x d hx hd
theorem Qna {t : Task} (ht : GoodT t) : StateOK t.Vars (List.replicate t.Vars.length 0) := by
 refine ⟨by simp, fun j x d hx hd => ?_⟩
 have hx0 : x = 0 := (List.mem_replicate.1 (List.mem_of_getElem? hx)).2
 have := ht.v d (List.mem_of_getElem? hd)
 omega
theorem Qk3 {t : Task} (ht : GoodT t) {i : Nat} {o : Op} (hi : t.Ops[i]? = some o) {p : List Int} (hp : PatOK t p) (hpb : JW (p.map (Ka t.Vars)) ≤ 4096) {a : Int} (ha0 : 0 ≤ a) (ha1 : a < JW (p.map (Ka t.Vars))) {fr : List Int} (hfn : fr.Nodup) (hfm : ∀ w, w ∈ fr ↔ Qka o p w)
  (hbig : JW (fr.map (Ka t.Vars)) ≤ 4096) : Ok (Ye t (i : Int) p fr a) fun L => L.Pairwise (fun a b => a < b) ∧ (∀ b, b ∈ L ↔ TP t o p a b) ∧ (L.length : Int) ≤ JW (fr.map (Ka t.Vars)) := by
 classical
 have hop := ht.op o (List.mem_of_getElem? hi)
 have hnv := ht.nv
 have hfr : PatOK t fr := ⟨fun w hw => by
  obtain ⟨_, _, e, he, _, f, hf, rfl⟩ := (hfm w).1 hw
  have := (hop.eff e he).1.r f hf
  exact ⟨this.1, this.2.1⟩, hfn⟩
 have hfl := hfr.len
 have hpl := hp.len
 have hP1 := QbN (hfr.dm ht.v)
 unfold Ye
 rw [Qo, hi]
 simp only [Option.bind_some]
 refine Ok.step (QbS (by omega) (by omega)) ?_
 have hz := Qna ht
 obtain ⟨z1, z2, z3⟩ := Qou ht hp ha0 ha1 hz
 refine Ok.step (QkR ht.v hp.r (by omega) hz.len ha0 (by omega)) ?_
 generalize QbD t.Vars p.reverse (List.replicate t.Vars.length 0) a = s0 at z1 z2 z3
 refine Ok.ctl (fun j s => StateOK t.Vars s ∧ (∀ w ∈ p, s[w.toNat]? = s0[w.toNat]?) ∧ Ki (o.Pre.take j) s) (fun r => r = [] ∧ ∃ x ∈ o.Pre, x.Var ∈ p ∧ s0[x.Var.toNat]? ≠ some x.Val) ⟨z1, fun _ _ => rfl, by simp [Ki]⟩ ?_ ?_ ?_
 ·rintro j s hj ⟨g1, g2, g3⟩
  obtain ⟨x, hx⟩ := Qt hj
  have hxm := List.mem_of_getElem? hx
  have hr := hop.pre.r x hxm
  have hbef : ∀ y ∈ o.Pre.take j, y.Var < x.Var := by
   have := hop.pre.take (j + 1)
   rw [Q6 hx] at this
   exact (Qcx.1 this).2.2
  obtain ⟨y, hy, _⟩ := g1.at hr.1 hr.2.1
  have e1 : Q9 s x.Var = some y := by unfold Q9; rw [if_pos hr.1, hy]
  simp only [Qo, hx, Option.bind_some, QbH]
  by_cases h1 : x.Var ∈ p
  ·simp only [h1, decide_true, if_true, e1, Option.bind_some]
   by_cases h2 : y = x.Val
   ·simp only [h2, decide_true, Bool.not_true, Bool.false_eq_true, if_false]
    refine Ok.ret ⟨g1, g2, ?_⟩
    rw [Q6 hx]
    intro z hz
    rcases List.mem_append.1 hz with hz | hz
    ·exact g3 z hz
    ·simp only [List.mem_singleton] at hz; subst hz; rw [hy, h2]
   ·simp only [h2, decide_false, Bool.not_false, if_true]
    refine Ok.ret ⟨Z, x, hxm, h1, ?_⟩
    rw [← g2 _ h1, hy]
    exact fun e => h2 (Zu e)
  ·have hlt : x.Var.toNat < s.length := by rw [g1.len]; have := hr.1; have := hr.2.1; omega
   have e2 : JL s x.Var x.Val = some (s.set x.Var.toNat x.Val) := by unfold JL; rw [if_pos ⟨hr.1, hlt⟩]
   simp only [h1, decide_false, Bool.false_eq_true, if_false, e1, e2, Option.bind_some]
   refine Ok.ret ⟨g1.set hr.2.2.1 hr.2.2.2, fun w hw => ?_, ?_⟩
   ·have := hp.r w hw
    have hne : x.Var.toNat ≠ w.toNat := fun e => h1 ((show x.Var = w by have := hr.1; omega) ▸ hw)
    rw [List.getElem?_set_ne hne]; exact g2 w hw
   ·rw [Q6 hx]
    intro z hz
    rcases List.mem_append.1 hz with hz | hz
    ·have := hbef z hz
     have hz0 := (hop.pre.r z (List.mem_of_mem_take hz)).1
     rw [List.getElem?_set_ne (by omega)]
     exact g3 z hz
    ·simp only [List.mem_singleton] at hz; subst hz; rw [List.getElem?_set_self hlt]
 ·rintro r ⟨rfl, x, hx, h1, h2⟩
  refine Ok.ret ⟨by simp, fun b => ⟨fun h => by simp at h, ?_⟩, by simp; omega⟩
  rintro ⟨σ, s1, s2, s3, _⟩
  have := Qgc hp s1 z1 (by rw [s2, z2]) _ h1
  rw [s3 x hx] at this
  exact absurd this.symm h2
 ·rintro s2 ⟨g1, g2, g3⟩
  rw [List.take_length] at g3
  have gn : nP t p s2 = a := by
   rw [← z2]
   exact QbG fun w hw => by unfold vl; rw [g2 w (List.mem_reverse.1 hw)]
  clear g2
  obtain ⟨r, hr, hr2⟩ := Qh4 ht.v hfr.r
  have hr3 : r = (JW (fr.map (Ka t.Vars)), true) := by
   rcases hr2 with ⟨_, h⟩ | ⟨h, _⟩
   ·exact h
   ·omega
  subst hr3
  refine Ok.step hr ?_
  simp only [QI]
  refine Ok.must (by simp; omega) (Ok.bind ?_)
  generalize hN : (JW (fr.map (Ka t.Vars))) = N at *
  have hagree : ∀ σ σ', StateOK t.Vars σ → StateOK t.Vars σ' → nP t p σ = a → nP t p σ' = a → Ki o.Pre σ → Ki o.Pre σ' → (∀ w ∈ fr, σ[w.toNat]? = σ'[w.toNat]?) → aP t p o σ = aP t p o σ' := by
   intro σ σ' k1 k2 k3 k4 k5 k6 k7
   have hpw := Qgc hp k1 k2 (by rw [k3, k4])
   refine QbG fun v hv => ?_
   have hv := List.mem_reverse.1 hv
   refine QhS (hpw v hv) fun e he hev => ?_
   have hsame : ∀ f ∈ e.When, σ[f.Var.toNat]? = σ'[f.Var.toNat]? := by
    intro f hf
    by_cases c1 : f.Var ∈ p
    ·exact hpw _ c1
    ·by_cases c2 : ∃ x ∈ o.Pre, x.Var = f.Var
     ·obtain ⟨x, hx, hxe⟩ := c2
      rw [← hxe, k5 x hx, k6 x hx]
     ·exact k7 _ ((hfm _).2 ⟨c1, c2, e, he, by rw [hev]; exact hv, f, hf, Z⟩)
   constructor
   ·intro h f hf; rw [← hsame f hf]; exact h f hf
   ·intro h f hf; rw [hsame f hf]; exact h f hf
  refine QQ (fun k q => q.1.length = k ∧ StateOK t.Vars q.2 ∧ nP t p q.2 = a ∧ Ki o.Pre q.2 ∧ (∀ b ∈ q.1, TP t o p a b) ∧
    ∀ σ, StateOK t.Vars σ → nP t p σ = a → Ki o.Pre σ → nP t fr σ < (k : Int) → aP t p o σ ∈ q.1) ?_ ?_ ?_
  ·refine ⟨Z, g1, gn, g3, by simp, ?_⟩
   intro σ k1 k2 k3 hlt
   have := (Qeg hfr k1).1
   omega
  ·rintro k ⟨out, l⟩ hk ⟨f1, f2, f3, f4, f5, f6⟩
   simp only at f1 f2 f3 f4 f5 f6
   have hkN : (k : Int) < N := by omega
   have hput : Qfv t fr l (k : Int) = some (QbD t.Vars fr.reverse l k) := QkR ht.v hfr.r (by omega) f2.len (by omega) (by omega)
   obtain ⟨hl'ok, hl'n, hout⟩ := Qou ht hfr (a := (k : Int)) (by omega) (by omega) f2
   have hl'len := hl'ok.len
   have hl'p : Ki o.Pre (QbD t.Vars fr.reverse l (k : Int)) := by
    intro x hx
    rw [hout x.Var (hop.pre.r x hx).1 (fun h => ((hfm _).1 h).2.1 ⟨x, hx, rfl⟩)]
    exact f4 x hx
   have hl'v : nP t p (QbD t.Vars fr.reverse l (k : Int)) = a := by
    rw [← f3]
    refine QbG fun w hw => ?_
    have hw := List.mem_reverse.1 hw
    unfold vl
    rw [hout w (hp.r w hw).1 fun h => ((hfm _).1 h).1 hw]
   have hnum : ∀ σ, StateOK t.Vars σ → nP t p σ = a → Ki o.Pre σ → nP t fr σ = (k : Int) → aP t p o σ = aP t p o (QbD t.Vars fr.reverse l (k : Int)) := fun σ k1 k2 k3 hnk =>
    hagree σ _ k1 hl'ok k2 hl'v k3 hl'p (Qgc hfr k1 hl'ok (by rw [hnk, hl'n]))
   generalize QbD t.Vars fr.reverse l (k : Int) = l' at *
   simp only [QI, hput, Option.bind_some]
   have hclone : J4 l' = some l' := by
    unfold J4
    rw [JB (by simp; omega)]
    simp
   simp only [hclone, Option.bind_some]
   refine Ok.bind (QQ (fun j m => m.length = t.Vars.length ∧ ∀ w ∈ p, m[w.toNat]? = some (QcT (o.Effs.take j) w l')) ⟨hl'len, fun w hw => by
    have := (QeP hl'ok (hp.r w hw).1 (hp.r w hw).2).1
    rw [this]
    unfold vl
    rfl⟩ ?_ ?_)
   ·rintro j m hj ⟨e1, e2⟩
    obtain ⟨e, he⟩ := Qt hj
    have hem := List.mem_of_getElem? he
    have her := hop.eff e hem
    have her2 := her.2
    unfold InR at her2
    simp only at her2
    simp only [Qo, he, Option.bind_some, QbH]
    by_cases h1 : e.Var ∈ p
    ·simp only [h1, decide_true, if_true, Qn8 her.1 hl'len, Option.bind_some]
     by_cases h2 : Ki e.When l'
     ·have i1 : Q9 m e.Var = some (QcT (o.Effs.take j) e.Var l') := by unfold Q9; rw [if_pos her2.1, e2 _ h1]
      have i2 : JL m e.Var e.Val = some (m.set e.Var.toNat e.Val) := by unfold JL; rw [if_pos ⟨her2.1, by omega⟩]
      simp only [h2, decide_true, if_true, i1, i2, Option.bind_some]
      refine Ok.ret ⟨by simp [e1], fun w hw => ?_⟩
      rw [Q6 he, Qc3]
      by_cases h3 : e.Var = w
      ·subst h3
       rw [if_pos ⟨rfl, h2⟩, List.getElem?_set_self (by omega)]
      ·have := hp.r w hw
       rw [if_neg (fun h => h3 h.1), List.getElem?_set_ne (by omega)]
       exact e2 w hw
     ·simp only [h2, decide_false, Bool.false_eq_true, if_false, Option.bind_some]
      refine Ok.ret ⟨e1, fun w hw => ?_⟩
      rw [Q6 he, Qc3, if_neg (fun h => h2 h.2)]
      exact e2 w hw
    ·simp only [h1, decide_false, Bool.false_eq_true, if_false, Option.bind_some]
     refine Ok.ret ⟨e1, fun w hw => ?_⟩
     rw [Q6 he, Qc3, if_neg (fun h => h1 (by rw [h.1]; exact hw))]
     exact e2 w hw
   ·rintro m ⟨e1, e2⟩
    rw [List.take_length] at e2
    have hm : ∀ w ∈ p, vl m w = QcT o.Effs w l' := fun w hw => by unfold vl; rw [e2 w hw]; rfl
    have hno := Qgl (p := p) (s := m) ht.v hp hpb fun w hw => by
     obtain ⟨q1, q2, q3⟩ := QeP hl'ok (hp.r w hw).1 (hp.r w hw).2
     have := QhR (vars := t.Vars) q1 q2 q3 (effs := o.Effs) fun e he => (hop.eff e he).2
     rw [hm w hw]
     exact ⟨e2 w hw, this⟩
    have hnm : nP t p m = aP t p o l' := QbG fun w hw => hm w (List.mem_reverse.1 hw)
    have hno' : JX t p m = some (nP t p m) := hno
    rw [hno']
    simp only [Option.bind_some]
    rw [JB (by simp only [List.length_singleton]; omega), hnm]
    refine Ok.ret ⟨by simp [f1], hl'ok, hl'v, hl'p, fun b hb => ?_, fun σ k1 k2 k3 hlt => ?_⟩
    ·rcases List.mem_append.1 hb with hb | hb
     ·exact f5 b hb
     ·simp only [List.mem_singleton] at hb
      exact ⟨l', hl'ok, hl'v, hl'p, hb⟩
    ·by_cases hlt' : nP t fr σ < (k : Int)
     ·exact List.mem_append_left _ (f6 σ k1 k2 k3 hlt')
     ·refine List.mem_append_right _ ?_
      rw [hnum σ k1 k2 k3 (by omega)]
      simp
  ·rintro ⟨out, l⟩ ⟨f1, f2, f3, f4, f5, f6⟩
   simp only at f1 f2 f3 f4 f5 f6
   refine Ok.mono (Qmj (l := out) (by omega)) ?_
   rintro L ⟨h1, h2, h3⟩
   refine ⟨h1, fun b => ?_, by omega⟩
   rw [h2]
   constructor
   ·exact f5 b
   ·rintro ⟨σ, k1, k2, k3, rfl⟩
    refine f6 σ k1 k2 k3 ?_
    have := (Qeg hfr k1).2
    omega
end Go.Pw
/- -/
set_option maxHeartbeats 8000000
namespace Go.Pw
abbrev noS : System := ⟨0, 0, [], [], []⟩
def Ql5 (t : Task) (p : List Int) (a : Int) : Prop := ∀ σ, StateOK t.Vars σ → nP t p σ = a → ∀ f ∈ t.Goal, f.Var ∈ p → σ[f.Var.toNat]? = some f.Val
def Ql8 (t : Task) (p : List Int) (e : Edge) : Prop := ∃ (i : Nat) (o : Op), t.Ops[i]? = some o ∧ e.Label = (i : Int) ∧ TP t o p e.From e.To
structure ProjRes (t : Task) (p : List Int) (x : System) : Prop where
 s : x.States = JW (p.map (Ka t.Vars))
 sl : x.States ≤ 4096
 i : x.Init = nP t p t.Init
 c : x.Costs = t.Ops.map fun o => o.Cost
 gl : (x.Goals.length : Int) = x.States
 g : ∀ a : Nat, (a : Int) < x.States → ∃ b, x.Goals[a]? = some b ∧ (b = true ↔ Ql5 t p a)
 srt : Srt x.Edges
 mem : ∀ e, e ∈ x.Edges ↔ Ql8 t p e
 n : x.Edges.length ≤ 65536
def Asc (p : List Int) : Prop := p.Pairwise fun a b => a < b
theorem QiY {p : List Int} (h : Asc p) : p.Nodup := h.imp fun h e => by omega
theorem QpU {t : Task} {p : List Int} (hn : ∀ o ∈ t.Ops, o.Name.size ≤ 9223372036854775807) (hl : p.length ≤ 4611686018427387904) : Ok (YI t p) fun e => (e = none → GoodT t ∧ PatOK t p) ∧ (GoodT t → (∀ w ∈ p, 0 ≤ w ∧ w < (t.Vars.length : Int)) → Asc p → e = none) := by
 unfold YI
 obtain ⟨e, he, hg⟩ := Qf9 t hn
 rw [he]
 simp only [Option.bind_some]
 cases e with
 | some e =>
  simp only [Option.isSome_some, if_true]
  refine Ok.ret ⟨fun h => (by cases h), fun h => ?_⟩
  have := hg.2 h
  cases this
 | none =>
  have hG := hg.1 rfl
  simp only [Option.isSome_none, Bool.false_eq_true, if_false]
  refine Ok.ctl (fun i _ => (∀ w ∈ p.take i, 0 ≤ w ∧ w < (t.Vars.length : Int)) ∧ Asc (p.take i)) (fun r => r ≠ none ∧ ¬ ((∀ w ∈ p, 0 ≤ w ∧ w < (t.Vars.length : Int)) ∧ Asc p)) ⟨by simp, by simp [Asc]⟩ ?_ ?_ ?_
  ·rintro i _ hi ⟨g1, g2⟩
   obtain ⟨v, hv⟩ := Qt hi
   have hvm := List.mem_of_getElem? hv
   simp only [Qo, hv, Option.bind_some]
   have hstep : 0 ≤ v → v < (t.Vars.length : Int) → (∀ w ∈ p.take i, w < v) → ((∀ w ∈ p.take (i + 1), 0 ≤ w ∧ w < (t.Vars.length : Int)) ∧ Asc (p.take (i + 1))) := by
    intro a1 a2 a3
    rw [Q6 hv]
    refine ⟨fun w hw => ?_, List.pairwise_append.2 ⟨g2, by simp, fun a ha b hb => ?_⟩⟩
    ·rcases List.mem_append.1 hw with hw | hw
     ·exact g1 w hw
     ·simp only [List.mem_singleton] at hw; subst hw; exact ⟨a1, a2⟩
    ·simp only [List.mem_singleton] at hb; subst hb; exact a3 a ha
   by_cases h1 : v < 0
   ·simp only [h1, decide_true, if_true, Option.bind_some]
    exact Ok.ret ⟨by simp, fun h => by have := h.1 v hvm; omega⟩
   by_cases h2 : (t.Vars.length : Int) ≤ v
   ·simp only [h1, h2, decide_true, decide_false, Bool.false_eq_true, if_false, if_true, Option.bind_some]
    exact Ok.ret ⟨by simp, fun h => by have := h.1 v hvm; omega⟩
   simp only [h1, h2, decide_false, Bool.false_eq_true, if_false]
   by_cases h0 : i = 0
   ·subst h0
    simp only [Int.natCast_zero, Int.lt_irrefl, decide_false, Bool.false_eq_true, if_false, Option.bind_some]
    exact Ok.ret (hstep (by omega) (by omega) (by simp))
   ·obtain ⟨u, hu⟩ := Qt (xs := p) (i := i - 1) (by omega)
    have hw : IntKind.i64.wrap ((i : Int) - 1) = ((i - 1 : Nat) : Int) := by rw [QD (by omega) (by omega)]; omega
    have hpos : (0 : Int) < (i : Int) := by omega
    simp only [hpos, decide_true, if_true, hw, Qo, hu, Option.bind_some]
    have hi1 : i - 1 + 1 = i := by omega
    have htk := Q6 hu
    rw [hi1] at htk
    by_cases h3 : v ≤ u
    ·simp only [h3, decide_true, if_true]
     refine Ok.ret ⟨by simp, fun h => ?_⟩
     have := List.pairwise_iff_getElem.1 h.2 (i - 1) i (by omega) hi (by omega)
     rw [(List.getElem?_eq_some_iff.1 hu).2, (List.getElem?_eq_some_iff.1 hv).2] at this
     omega
    ·simp only [h3, decide_false, Bool.false_eq_true, if_false]
     refine Ok.ret (hstep (by omega) (by omega) fun w hw => ?_)
     rw [htk] at hw g2
     rcases List.mem_append.1 hw with hw | hw
     ·have := (List.pairwise_append.1 g2).2.2 w hw u (by simp)
      omega
     ·simp only [List.mem_singleton] at hw; subst hw; omega
  ·rintro r ⟨h1, h2⟩
   exact Ok.ret ⟨fun h => absurd h h1, fun _ a b => absurd ⟨a, b⟩ h2⟩
  ·rintro _ ⟨g1, g2⟩
   rw [List.take_length] at g1 g2
   exact Ok.ret ⟨fun _ => ⟨hG, g1, QiY g2⟩, fun _ _ _ => rfl⟩
open Classical in
theorem Qll {t : Task} (hg : FactsOK t.Vars t.Goal) {p : List Int} (hp : PatOK t p) {a : Int} {s : List Int} (hs : StateOK t.Vars s) (hn : nP t p s = a) : Ok (forS (fun i => fun (goal : Bool) => (Q9 t.Goal (i : Int)).bind fun x =>
  (if goal then ((QC p x.Var).bind <| fun (y : Bool) =>
  if !y then (some true)
  else ((Q9 s x.Var).bind fun z =>
  some (decide (z = x.Val))))
  else (some false)).bind (fun (goal : Bool) => some goal)) (t.Goal.length) 0 true) fun b => b = decide (Ql5 t p a) := by
 have hiff : Ql5 t p a ↔ ∀ f ∈ t.Goal, f.Var ∈ p → s[f.Var.toNat]? = some f.Val := by
  constructor
  ·exact fun h => h s hs hn
  ·intro h σ h1 h2 f hf hv
   rw [Qgc hp h1 hs (by rw [h2, hn]) _ hv]
   exact h f hf hv
 rw [decide_eq_decide.2 hiff]
 refine QQ (fun i b => b = decide (∀ f ∈ t.Goal.take i, f.Var ∈ p → s[f.Var.toNat]? = some f.Val)) (by simp) ?_ ?_
 ·rintro i b hi rfl
  obtain ⟨x, hx⟩ := Qt hi
  have hr := hg.r x (List.mem_of_getElem? hx)
  obtain ⟨y, hy, _⟩ := hs.at hr.1 hr.2.1
  have e1 : Q9 s x.Var = some y := by unfold Q9; rw [if_pos hr.1, hy]
  simp only [Qo, hx, Option.bind_some, QbH, Q6 hx]
  by_cases h1 : ∀ f ∈ t.Goal.take i, f.Var ∈ p → s[f.Var.toNat]? = some f.Val
  ·rw [if_pos (by simpa using h1)]
   by_cases h2 : x.Var ∈ p
   ·simp only [h2, e1, decide_true, Bool.not_true, Bool.false_eq_true, if_false, Option.bind_some]
    refine Ok.ret ?_
    by_cases h3 : y = x.Val
    ·rw [decide_eq_true h3, decide_eq_true]
     intro f hf hv
     rcases List.mem_append.1 hf with hf | hf
     ·exact h1 f hf hv
     ·simp only [List.mem_singleton] at hf; subst hf; rw [hy, h3]
    ·rw [decide_eq_false h3, decide_eq_false]
     intro h
     have := h x (by simp) h2
     rw [hy] at this
     exact h3 (Zu this)
   ·simp only [h2, decide_false, Bool.not_false, if_true]
    refine Ok.ret ?_
    rw [decide_eq_true]
    intro f hf hv
    rcases List.mem_append.1 hf with hf | hf
    ·exact h1 f hf hv
    ·simp only [List.mem_singleton] at hf; subst hf; exact absurd hv h2
  ·rw [if_neg (by simpa using h1)]
   refine Ok.ret ?_
   rw [decide_eq_false]
   exact fun h => h1 fun f hf hv => h f (by simp [hf]) hv
 ·rintro b rfl
  rw [List.take_length]
def Qg4 (t : Task) (p : List Int) : Prop := JW (p.map (Ka t.Vars)) ≤ 4096 ∧ ∃ M : Nat, (∀ o ∈ t.Ops, ∀ fr : List Int, fr.Nodup → (∀ w, w ∈ fr ↔ Qka o p w) → JW (fr.map (Ka t.Vars)) ≤ M) ∧ M ≤ 4096 ∧ (JW (p.map (Ka t.Vars))).toNat * t.Ops.length * M < 65536
theorem Qhw {t : Task} {p : List Int} (hn : ∀ o ∈ t.Ops, o.Name.size ≤ 9223372036854775807) (hl : p.length ≤ 4611686018427387904) :
  Ok (Ke t p) fun r => (r.1 = none → GoodT t ∧ PatOK t p ∧ ProjRes t p r.2) ∧ (r.1 ≠ none → r.2 = noS) ∧ (GoodT t → (∀ w ∈ p, 0 ≤ w ∧ w < (t.Vars.length : Int)) → Asc p → Qg4 t p → r.1 = none) ∧ (GoodT t → (∀ w ∈ p, 0 ≤ w ∧ w < (t.Vars.length : Int)) → Asc p → r.1 = none ∨ r.1 = some 5) := by
 classical
 unfold Ke
 obtain ⟨e, he, hg1, hg2⟩ := QpU (t := t) (p := p) hn hl
 rw [he]
 simp only [Option.bind_some]
 cases e with
 | some e =>
  simp only [Option.isSome_some, if_true]
  refine Ok.ret ⟨fun h => (by cases h), fun _ => rfl, fun a b c _ => ?_, fun a b c => ?_⟩
  ·have := hg2 a b c; cases this
  ·have := hg2 a b c; cases this
 | none =>
 obtain ⟨ht, hp⟩ := hg1 rfl
 simp only [Option.isSome_none, Bool.false_eq_true, if_false]
 suffices hS : Ok _ (fun r : (Option Int) × System => (r.1 = none ∧ ProjRes t p r.2) ∨ (r = (some 5, noS) ∧ ¬ Qg4 t p)) by
  refine hS.mono ?_
  rintro r (⟨h1, h2⟩ | ⟨rfl, h2⟩)
  ·exact ⟨fun _ => ⟨ht, hp, h2⟩, fun h => absurd h1 h, fun _ _ _ _ => h1, fun _ _ _ => .inl h1⟩
  ·exact ⟨fun h => (by cases h), fun _ => rfl, fun _ _ _ h => absurd h h2, fun _ _ _ => .inr rfl⟩
 have hno := ht.no
 have hnv := ht.nv
 have hpl := hp.len
 obtain ⟨r, hr, hr2⟩ := Qh4 ht.v (l := p) hp.r
 rw [hr]
 simp only [Option.bind_some]
 rcases hr2 with ⟨hpb, rfl⟩ | ⟨hpb, rfl⟩
 rotate_left
 ·simp only [QI, Bool.not_false, if_true]
  exact Ok.ret (.inr ⟨Z, fun h => by have := h.1; omega⟩)
 have hN1 := QbN (hp.dm ht.v)
 have hinit := Qgl (p := p) (s := t.Init) ht.v hp hpb fun w hw => QeP ht.init (hp.r w hw).1 (hp.r w hw).2
 simp only [QI, Bool.not_true, Bool.false_eq_true, if_false, hinit, Option.bind_some]
 generalize hNN : JW (p.map (Ka t.Vars)) = N at *
 refine Ok.step (QbS (by omega) (by omega)) ?_
 refine Ok.ctl (fun i q => q.1 = (t.Ops.take i).map (fun o => o.Cost) ∧ q.2.length = t.Ops.length ∧ ∀ j o, j < i → t.Ops[j]? = some o → ∃ fr, q.2[j]? = some fr ∧ fr.Nodup ∧ (∀ w, w ∈ fr ↔ Qka o p w) ∧ JW (fr.map (Ka t.Vars)) ≤ 4096)
  (fun r => r = (some 5, noS) ∧ ¬ Qg4 t p) ⟨by simp, by simp, fun j o hj => by omega⟩ ?_ ?_ ?_
 ·rintro i ⟨cs, fs⟩ hi ⟨g1, g2, g3⟩
  simp only at g1 g2 g3
  obtain ⟨o, ho⟩ := Qt hi
  have hom := List.mem_of_getElem? ho
  have hop := ht.op o hom
  obtain ⟨fr, hf, hf1, hf2⟩ := Qk9 hop hnv (p := p)
  have hfr : ∀ w ∈ fr, 0 ≤ w ∧ w < (t.Vars.length : Int) := by
   intro w hw
   obtain ⟨_, _, e, he, _, f, hf, rfl⟩ := (hf2 w).1 hw
   have := (hop.eff e he).1.r f hf
   exact ⟨this.1, this.2.1⟩
  obtain ⟨y, hy⟩ := Qt (xs := fs) (i := i) (by omega)
  simp only [QI, Qo, ho, Option.bind_some]
  rw [JB (by rw [g1]; simp; omega)]
  simp only [Option.bind_some, hf, hy, QW (show i < fs.length by omega)]
  rw [List.getElem?_set_self (by omega)]
  simp only [Option.bind_some]
  obtain ⟨r, hr, hr2⟩ := Qh4 ht.v hfr
  rw [hr]
  simp only [Option.bind_some]
  rcases hr2 with ⟨h2, rfl⟩ | ⟨h2, rfl⟩
  ·simp only [QI, Bool.not_true, Bool.false_eq_true, if_false]
   refine Ok.ret ⟨by simp only; rw [g1, Q6 ho]; simp, by simp [g2], fun j o' hj ho' => ?_⟩
   by_cases e : j = i
   ·subst e
    rw [ho] at ho'; cases ho'
    exact ⟨fr, by simp only; rw [List.getElem?_set_self (by omega)], hf1, hf2, h2⟩
   ·simp only
    rw [List.getElem?_set_ne (Ne.symm e)]
    exact g3 j o' (by omega) ho'
  ·simp only [QI, Bool.not_false, if_true]
   refine Ok.ret ⟨Z, ?_⟩
   rintro ⟨_, M, hM, hM2, _⟩
   have := hM o hom fr hf1 hf2
   omega
 ·rintro r ⟨rfl, h⟩
  exact Ok.ret (.inr ⟨Z, h⟩)
 rintro ⟨cs, fs⟩ ⟨g1, g2, g3⟩
 simp only at g1 g2 g3
 rw [List.take_length] at g1
 simp only [QI]
 refine Ok.step (QbS (by omega) (by omega)) (Ok.must (by simp; omega) ?_)
 have hdn : (N.toNat : Int) = N := by omega
 generalize hD : N.toNat = D at *
 let Bd : Nat → Prop := fun M => (∀ o ∈ t.Ops, ∀ fr : List Int, fr.Nodup → (∀ w, w ∈ fr ↔ Qka o p w) → JW (fr.map (Ka t.Vars)) ≤ M)
 have hroom : ∀ {M : Nat}, Bd M → M ≤ 4096 → ¬ D * t.Ops.length * M < 65536 → True := fun _ _ _ => trivial
 refine Ok.ctl (fun a q => StateOK t.Vars q.2.2 ∧ q.2.1.length = a ∧ (∀ b, b < a → ∃ z, q.2.1[b]? = some z ∧ (z = true ↔ Ql5 t p b)) ∧ Srt q.1 ∧ (∀ e, e ∈ q.1 ↔ Ql8 t p e ∧ e.From < (a : Int)) ∧ q.1.length ≤ 65536 ∧ ∀ M, Bd M → q.1.length ≤ a * t.Ops.length * M)
  (fun r => r = (some 5, noS) ∧ ¬ Qg4 t p) ⟨Qna ht, by simp, fun b hb => by omega, List.Pairwise.nil, ?_, by simp, by simp⟩ ?_ ?_ ?_
 ·intro e
  simp only [List.not_mem_nil, false_iff]
  rintro ⟨⟨i, o, _, _, σ, hσ, hv, _⟩, hlt⟩
  have := (Qeg hp hσ).1
  omega
 ·rintro a ⟨E, G, s⟩ ha ⟨k1, k2, k3, k4, k5, k6, k7⟩
  simp only at k1 k2 k3 k4 k5 k6 k7
  have haD : (a : Int) < N := by omega
  have hput : Qfv t p s (a : Int) = some (QbD t.Vars p.reverse s a) := QkR ht.v hp.r (by omega) k1.len (by omega) (by omega)
  obtain ⟨z1, z2, _⟩ := Qou ht hp (a := (a : Int)) (by omega) (by omega) k1
  simp only [un3, hput, Option.bind_some]
  obtain ⟨b, hb, hb2⟩ := Qll ht.goal hp z1 z2
  subst hb2
  refine Ok.step hb ?_
  rw [JB (by simp only [List.length_singleton]; omega)]
  simp only [Option.bind_some]
  refine Ok.ctl (fun i E' => Srt E' ∧ (∀ e, e ∈ E' ↔ Ql8 t p e ∧ (e.From < (a : Int) ∨ e.From = (a : Int) ∧ e.Label < (i : Int))) ∧ E'.length ≤ 65536 ∧ ∀ M, Bd M → E'.length ≤ (a * t.Ops.length + i) * M)
   (fun r => r = (some 5, noS) ∧ ¬ Qg4 t p) ⟨k4, fun e => ?_, k6, fun M hM => by simpa using k7 M hM⟩ ?_ ?_ ?_
  ·rw [k5]
   constructor
   ·rintro ⟨h1, h2⟩; exact ⟨h1, .inl h2⟩
   ·rintro ⟨h1, h2 | ⟨h2, h3⟩⟩
    ·exact ⟨h1, h2⟩
    ·obtain ⟨i, o, _, h4, _⟩ := h1
     omega
  ·rintro i E' hi ⟨f1, f2, f3, f4⟩
   obtain ⟨o, ho⟩ := Qt hi
   have hom := List.mem_of_getElem? ho
   obtain ⟨fr, hfr, hf1, hf2, hf3⟩ := g3 i o hi ho
   obtain ⟨L, hL, hL1, hL2, hL3⟩ := Qk3 ht ho hp (by omega) (a := (a : Int)) (by omega) (by omega) hf1 hf2 hf3
   simp only [Qo, hfr, hL, Option.bind_some]
   refine Ok.ctl (fun j E2 => E2 = E' ++ (L.take j).map (fun b => (⟨(a : Int), (i : Int), b⟩ : Edge)) ∧ E2.length ≤ 65536) (fun r => r = (some 5, noS) ∧ ¬ Qg4 t p) ⟨by simp, f3⟩ ?_ ?_ ?_
   ·rintro j E2 hj ⟨e1, e2⟩
    obtain ⟨b, hb⟩ := Qt hj
    simp only [Qo, hb, Option.bind_some]
    by_cases hc : (E2.length : Int) = 65536
    ·simp only [hc, decide_true, if_true]
     refine Ok.ret ⟨Z, ?_⟩
     rintro ⟨_, M, hM, hM2, hM3⟩
     rw [hNN, hD] at hM3
     have hbd : Bd M := hM
     have q1 := f4 M hbd
     have q2 := hM o hom fr hf1 hf2
     have q3 : E2.length = E'.length + j := by rw [e1]; simp; omega
     have q4 : (a * t.Ops.length + i) * M + M ≤ D * t.Ops.length * M := by
      rw [← Nat.succ_mul]
      refine Nat.mul_le_mul_right _ ?_
      have : (a + 1) * t.Ops.length ≤ D * t.Ops.length := Nat.mul_le_mul_right _ ha
      rw [Nat.succ_mul] at this
      omega
     omega
    ·simp only [hc, decide_false, Bool.false_eq_true, if_false]
     rw [JB (by simp only [List.length_singleton]; omega)]
     simp only [Option.bind_some]
     refine Ok.ret ⟨?_, by simp; omega⟩
     rw [Q6 hb, e1]
     simp
   ·rintro r h
    exact Ok.ret h
   ·rintro E2 ⟨e1, e2⟩
    rw [List.take_length] at e1
    subst e1
    refine Ok.ret ⟨?_, fun e => ?_, e2, fun M hM => ?_⟩
    ·refine List.pairwise_append.2 ⟨f1, ?_, ?_⟩
     ·refine List.pairwise_map.2 (hL1.imp ?_)
      intro x y hxy
      exact .inr ⟨Z, .inr ⟨Z, hxy⟩⟩
     ·intro x hx y hy
      obtain ⟨b, hb, rfl⟩ := List.mem_map.1 hy
      rcases ((f2 x).1 hx).2 with h | ⟨h, h'⟩
      ·exact .inl h
      ·exact .inr ⟨h, .inl h'⟩
    ·rw [List.mem_append, f2, List.mem_map]
     constructor
     ·rintro (⟨h2, h3⟩ | ⟨b, hb, rfl⟩)
      ·exact ⟨h2, by omega⟩
      ·exact ⟨⟨i, o, ho, Z, (hL2 b).1 hb⟩, .inr ⟨Z, by simp only; omega⟩⟩
     ·rintro ⟨h2, h3⟩
      by_cases h4 : e.From = (a : Int) ∧ e.Label = (i : Int)
      ·obtain ⟨i', o', ho', hl', hT⟩ := h2
       have : i' = i := by omega
       subst this
       rw [ho] at ho'; cases ho'
       rw [h4.1] at hT
       refine .inr ⟨e.To, (hL2 _).2 hT, ?_⟩
       cases e
       simp only at *
       rw [h4.1, h4.2]
      ·exact .inl ⟨h2, by omega⟩
    ·have q1 := f4 M hM
     have q2 := hM o hom fr hf1 hf2
     rw [← Nat.add_assoc, Nat.succ_mul]
     simp only [List.length_append, List.length_map]
     omega
  ·rintro r ⟨rfl, h⟩
   exact Ok.ret ⟨Z, h⟩
  ·rintro E' ⟨f1, f2, f3, f4⟩
   refine Ok.ret ⟨z1, by simp [k2], fun b hb => ?_, f1, fun e => ?_, f3, fun M hM => ?_⟩
   ·simp only
    by_cases e : b = a
    ·subst e
     exact ⟨_, by rw [List.getElem?_append_right (by omega), k2, Nat.sub_self]; rfl, by simp⟩
    ·rw [List.getElem?_append_left (by omega)]
     exact k3 b (by omega)
   ·simp only
    rw [f2]
    constructor
    ·rintro ⟨h2, h3⟩; exact ⟨h2, by omega⟩
    ·rintro ⟨h2, h3⟩
     have h4 := h2
     obtain ⟨i', o', ho', hl', hT⟩ := h4
     have := (List.getElem?_eq_some_iff.1 ho').1
     exact ⟨h2, by omega⟩
   ·have := f4 M hM
    simp only
    rw [Nat.succ_mul]
    exact this
 ·rintro r ⟨rfl, h⟩
  exact Ok.ret (.inr ⟨Z, h⟩)
 ·rintro ⟨E, G, s⟩ ⟨k1, k2, k3, k4, k5, k6, k7⟩
  simp only at k1 k2 k3 k4 k5 k6 k7
  simp only [un3]
  refine Ok.ret (.inl ⟨Z, hNN.symm, by simp only; omega, Z, g1, by simp only; omega, fun a ha => k3 a (by simp only at ha; omega), k4, fun e => ?_, k6⟩)
  simp only
  rw [k5]
  constructor
  ·exact fun h => h.1
  ·intro h
   refine ⟨h, ?_⟩
   obtain ⟨_, _, _, _, σ, hσ, hv, _⟩ := h
   have := (Qeg hp hσ).2
   omega
/-! ### one variable -/
def TB (t : Task) (o : Op) (v a b : Int) : Prop := ∃ σ, StateOK t.Vars σ ∧ σ[v.toNat]? = some a ∧ Ki o.Pre σ ∧ b = QcT o.Effs v σ
def AE (t : Task) (v : Int) (e : Edge) : Prop := ∃ (i : Nat) (o : Op), t.Ops[i]? = some o ∧ e.Label = (i : Int) ∧ TB t o v e.From e.To
def QpO (t : Task) (v a : Int) : Prop := ∀ f ∈ t.Goal, f.Var = v → f.Val = a
structure AtomRes (t : Task) (v : Int) (x : System) : Prop where
 s : x.States = Ka t.Vars v
 i : t.Init[v.toNat]? = some x.Init
 c : x.Costs = t.Ops.map fun o => o.Cost
 gl : (x.Goals.length : Int) = Ka t.Vars v
 g : ∀ a : Nat, (a : Int) < Ka t.Vars v → ∃ b, x.Goals[a]? = some b ∧ (b = true ↔ QpO t v a)
 srt : Srt x.Edges
 mem : ∀ e, e ∈ x.Edges ↔ AE t v e
 n : x.Edges.length ≤ 65536
theorem AtomRes.uniq {t : Task} {v : Int} {x y : System} (h : AtomRes t v x) (k : AtomRes t v y) : x = y := by
 have h1 : x.States = y.States := by rw [h.s, k.s]
 have h2 : x.Init = y.Init := by have := h.i; rw [k.i] at this; exact (Zu this).symm
 have h3 : x.Costs = y.Costs := by rw [h.c, k.c]
 have h4 : x.Edges = y.Edges := Srt.ext h.srt k.srt fun e => by rw [h.mem, k.mem]
 have h5 : x.Goals = y.Goals := by
  apply List.ext_getElem?
  intro i
  by_cases hi : i < x.Goals.length
  ·have hlt : (i : Int) < Ka t.Vars v := by rw [← h.gl]; omega
   obtain ⟨b, hb, hb2⟩ := h.g i hlt
   obtain ⟨c, hc, hc2⟩ := k.g i hlt
   rw [hb, hc]
   congr 1
   rw [Bool.eq_iff_iff, hb2, hc2]
  ·have := h.gl
   have := k.gl
   rw [List.getElem?_eq_none (by omega), List.getElem?_eq_none (by omega)]
 cases x; cases y
 simp only at *
 subst h1 h2 h3 h4 h5
 rfl
theorem Qhj {t : Task} {v : Int} {σ : List Int} : nP t [v] σ = vl σ v := by simp [nP, Qbe]
theorem Qnw {t : Task} {v : Int} {o : Op} {σ : List Int} : aP t [v] o σ = QcT o.Effs v σ := by simp [aP, Qbe]
theorem Ql1 {vars σ : List Int} (h : StateOK vars σ) {v a : Int} (h0 : 0 ≤ v) (h1 : v < (vars.length : Int)) : vl σ v = a ↔ σ[v.toNat]? = some a := by
 rw [(QeP h h0 h1).1]
 exact ⟨fun e => by rw [e], fun e => Zu e⟩
theorem QoX {t : Task} (ht : GoodT t) {v : Int} (h0 : 0 ≤ v) (h1 : v < (t.Vars.length : Int)) {x : System} (h : ProjRes t [v] x) : AtomRes t v x := by
 have hd := Y6 ht.v h0 h1
 have hs : x.States = Ka t.Vars v := by rw [h.s]; simp [JW]
 have hp : PatOK t [v] := ⟨by simp [h0, h1], by simp⟩
 refine ⟨hs, ?_, h.c, by rw [h.gl, hs], fun a ha => ?_, h.srt, fun e => (h.mem e).trans ?_, h.n⟩
 ·rw [h.i, Qhj]
  exact (QeP ht.init h0 h1).1
 ·obtain ⟨b, hb, hb2⟩ := h.g a (by omega)
  refine ⟨b, hb, hb2.trans ?_⟩
  constructor
  ·intro hg f hf hv
   obtain ⟨z1, z2, _⟩ := Qou ht hp (a := (a : Int)) (by omega) (by simpa [JW] using ha) (Qna ht)
   have := hg _ z1 z2 f hf (by simp [hv])
   rw [Qhj, Ql1 z1 h0 h1] at z2
   rw [hv, z2] at this
   exact (Zu this).symm
  ·intro hg σ h2 h3 f hf hv
   have hv : f.Var = v := by simpa using hv
   rw [Qhj, Ql1 h2 h0 h1] at h3
   rw [hv, h3, hg f hf hv]
 ·unfold Ql8 AE TP TB
  constructor
  ·rintro ⟨i, o, ho, hl, σ, a1, a2, a3, a4⟩
   rw [Qhj, Ql1 a1 h0 h1] at a2
   exact ⟨i, o, ho, hl, σ, a1, a2, a3, by rw [a4, Qnw]⟩
  ·rintro ⟨i, o, ho, hl, σ, a1, a2, a3, a4⟩
   rw [← Ql1 a1 h0 h1, ← Qhj (t := t)] at a2
   exact ⟨i, o, ho, hl, σ, a1, a2, a3, by rw [a4, Qnw]⟩
theorem QmD {t : Task} (ht : GoodT t) {v : Int} (h0 : 0 ≤ v) (h1 : v < (t.Vars.length : Int)) (hr : Qg4 t [v]) : Ok (Yw t v) fun r => r.1 = none ∧ AtomRes t v r.2 := by
 unfold Yw
 obtain ⟨⟨e, x⟩, hx, a1, a2, a3, a4⟩ := Qhw (t := t) (p := [v]) (fun o ho => by have := (ht.op o ho).nm; omega) (by simp)
 have he : e = none := a3 ht (by simp [h0, h1]) (by simp [Asc]) hr
 subst he
 rw [hx]
 exact Ok.ret ⟨Z, QoX ht h0 h1 (a1 Z).2.2⟩
end Go.Pw
/- -/
set_option maxHeartbeats 4000000
namespace Go.Pw
/-! ### all states -/
def Qd9 (k : Int) (out : List (List Int)) : List (List Int) := out.flatMap fun s => (List.range k.toNat).map fun (x : Nat) => s ++ [(x : Int)]
def stR : List Int → List (List Int)
 | [] => [[]]
 | k :: r => Qd9 k (stR r)
def QN (vars : List Int) : List (List Int) := stR vars.reverse
theorem QhQ (k : Int) (hk : 0 ≤ k) (out : List (List Int)) : ((Qd9 k out).length : Int) = out.length * k := by
 unfold Qd9
 induction out with
 | nil => simp
 | cons s out ih =>
  simp only [List.flatMap_cons, List.length_append, List.length_map, List.length_range, List.length_cons]
  rw [Int.natCast_add, ih, Int.natCast_add, Int.add_mul]
  omega
theorem QlC : ∀ {r : List Int}, (∀ x ∈ r, 0 ≤ x) → ((stR r).length : Int) = JW r
 | [], _ => rfl
 | k :: r, h => by
  unfold stR JW
  rw [QhQ k (h k (by simp)), QlC fun x hx => h x (by simp [hx]), Int.mul_comm]
theorem QfJ {vars : List Int} {k : Int} {s : List Int} : StateOK (vars ++ [k]) s ↔ ∃ s' x, s = s' ++ [x] ∧ StateOK vars s' ∧ 0 ≤ x ∧ x < k := by
 constructor
 ·intro h
  have hl := h.len
  simp only [List.length_append, List.length_singleton] at hl
  obtain ⟨x, hx⟩ := Qt (xs := s) (i := vars.length) (by omega)
  have hsp : s = s.take vars.length ++ [x] := by
   have := Q6 hx
   rw [← this, List.take_of_length_le (by omega)]
  refine ⟨s.take vars.length, x, hsp, ⟨by simp; omega, fun i y d hy hd => ?_⟩, ?_⟩
  ·have hi := (List.getElem?_eq_some_iff.1 hd).1
   refine h.r i y d ?_ (by rw [List.getElem?_append_left hi]; exact hd)
   rw [List.getElem?_take] at hy
   simpa [hi] using hy
  ·exact h.r vars.length x k hx (by simp)
 ·rintro ⟨s', x, rfl, h, h0, h1⟩
  refine ⟨by simp [h.len], fun i y d hy hd => ?_⟩
  by_cases hi : i < vars.length
  ·rw [List.getElem?_append_left (by rw [h.len]; exact hi)] at hy
   rw [List.getElem?_append_left hi] at hd
   exact h.r i y d hy hd
  ·have hlt := (List.getElem?_eq_some_iff.1 hd).1
   simp only [List.length_append, List.length_singleton] at hlt
   obtain rfl : i = vars.length := by omega
   rw [List.getElem?_append_right (by rw [h.len]; exact Nat.le_refl _), h.len, Nat.sub_self] at hy
   rw [List.getElem?_append_right (Nat.le_refl _), Nat.sub_self] at hd
   simp only [List.getElem?_cons_zero, Option.some.injEq] at hy hd
   subst hy hd
   exact ⟨h0, h1⟩
theorem Qjq : ∀ {r : List Int} {s : List Int}, s ∈ stR r ↔ StateOK r.reverse s
 | [], s => by
  simp only [stR, List.mem_singleton, List.reverse_nil]
  constructor
  ·rintro rfl; exact ⟨rfl, by simp⟩
  ·intro h; exact List.eq_nil_of_length_eq_zero h.len
 | k :: r, s => by
  rw [List.reverse_cons, QfJ]
  simp only [stR, Qd9, List.mem_flatMap, List.mem_map, List.mem_range]
  constructor
  ·rintro ⟨s', hs', x, hx, rfl⟩
   exact ⟨s', (x : Int), Z, Qjq.1 hs', by omega, by omega⟩
  ·rintro ⟨s', x, rfl, h, h0, h1⟩
   exact ⟨s', Qjq.2 h, x.toNat, by omega, by rw [Int.toNat_of_nonneg h0]⟩
theorem QaW {vars s : List Int} : s ∈ QN vars ↔ StateOK vars s := by
 unfold QN
 rw [Qjq, List.reverse_reverse]
theorem Qk8 (l : List Int) : JW l.reverse = JW l := Qhx (List.reverse_perm l)
theorem QbV {vars : List Int} (h : ∀ x ∈ vars, 0 ≤ x) : ((QN vars).length : Int) = JW vars := by
 unfold QN
 rw [QlC (fun x hx => h x (List.mem_reverse.1 hx)), Qk8]
theorem Qgh {vars : List Int} (hv : ∀ n ∈ vars, 1 ≤ n ∧ n ≤ 64) (hn : vars.length ≤ 64) (hp : JW vars ≤ 4096) : KH vars = some (QN vars) := by
 unfold KH
 refine Ok.eq (Ok.bind (QQ (fun i out => out = QN (vars.take i)) (by simp [QN, stR]) ?_ ?_))
 ·rintro i out hi rfl
  obtain ⟨k, hk⟩ := Qt hi
  have hkr := hv k (List.mem_of_getElem? hk)
  have hlen := QbV (vars := vars.take i) fun x hx => by have := hv x (List.mem_of_mem_take hx); omega
  have hle := QaX (l := vars) (fun x hx => (hv x hx).1) i
  have hle2 := QaX (l := vars) (fun x hx => (hv x hx).1) (i + 1)
  have hmul : JW (vars.take (i + 1)) = JW (vars.take i) * k := by rw [Q6 hk, QbF]; simp [JW]
  have hstep : QN (vars.take (i + 1)) = Qd9 k (QN (vars.take i)) := by
   unfold QN
   rw [Q6 hk, List.reverse_append, List.reverse_singleton, List.singleton_append]
   rfl
  have hel := QhQ k (by omega) (QN (vars.take i))
  have hsl : ∀ s ∈ QN (vars.take i), s.length ≤ 64 := fun s hs => by
   have := (QaW.1 hs).len
   rw [List.length_take] at this
   omega
  rw [hstep]
  generalize QN (vars.take i) = L at *
  simp only [Qo, hk, Option.bind_some]
  rw [QaV L (fun s => (List.range k.toNat).map fun (x : Nat) => s ++ [(x : Int)]) (s0 := [])]
  ·exact Ok.ret (by simp [Qd9])
  ·intro j s u hj hu
   have hs := hsl s (List.mem_of_getElem? hj)
   have hjl := (List.getElem?_eq_some_iff.1 hj).1
   have hul : u.length ≤ 4096 * 64 := by
    rw [hu, List.nil_append]
    refine Nat.le_trans (QcX (M := 64) fun x _ => by simp; omega) (Nat.mul_le_mul_right _ ?_)
    rw [List.length_take]
    omega
   have hm : must (decide (k ≤ 9223372036854775807)) = some () := by unfold must; rw [if_pos (by simp; omega)]
   simp only [hj, hm, Option.bind_some]
   rw [QhP k.toNat (fun (x : Nat) => [s ++ [(x : Int)]]) (s0 := u)]
   ·simp [Qa7]
   ·intro x w hx hw
    have hwl : w.length ≤ 4096 * 64 + 64 := by
     rw [hw, Qa7]
     simp
     omega
    rw [JB (by simp; omega)]
    simp only [Option.bind_some, List.nil_append]
    rw [JB (by simp; omega)]
    simp only [Option.bind_some]
    rw [JB (by simp; omega)]
    rfl
 ·rintro out rfl
  rw [List.take_length]
  exact Ok.ret Z
/-! ### successors -/
open Classical in
noncomputable def JF (effs : List Effect) (s : List Int) : List Int := effs.foldl (fun c e => if Ki e.When s then c.set e.Var.toNat e.Val else c) s
open Classical in
theorem Qer (effs : List Effect) (e : Effect) (s : List Int) : JF (effs ++ [e]) s = if Ki e.When s then (JF effs s).set e.Var.toNat e.Val else JF effs s := by simp [JF]
theorem Qdy {α : Type} {P : List α → Prop} (h0 : P []) (h1 : ∀ l x, P l → P (l ++ [x])) (l : List α) : P l := by
 have : ∀ r : List α, P r.reverse := by
  intro r
  induction r with
  | nil => exact h0
  | cons x r ih => rw [List.reverse_cons]; exact h1 _ _ ih
 have h := this l.reverse
 rwa [List.reverse_reverse] at h
theorem Qc5 {vars : List Int} {s : List Int} (hs : StateOK vars s) {effs : List Effect} : (∀ e ∈ effs, InR vars ⟨e.Var, e.Val⟩) → StateOK vars (JF effs s) := by
 refine Qdy (P := fun effs => (∀ e ∈ effs, InR vars ⟨e.Var, e.Val⟩) → StateOK vars (JF effs s)) (fun _ => hs) ?_ effs
 intro l e ih h
 have h1 := ih fun e' he' => h e' (by simp [he'])
 have h2 := h e (by simp)
 rw [Qer]
 by_cases hc : Ki e.When s
 ·rw [if_pos hc]; exact h1.set h2.2.2.1 h2.2.2.2
 ·rw [if_neg hc]; exact h1
theorem QeD {vars : List Int} {s : List Int} (hs : StateOK vars s) {v : Int} (h0 : 0 ≤ v) (h1 : v < (vars.length : Int)) {effs : List Effect} : (∀ e ∈ effs, InR vars ⟨e.Var, e.Val⟩) → (JF effs s)[v.toNat]? = some (QcT effs v s) := by
 refine Qdy (P := fun effs => (∀ e ∈ effs, InR vars ⟨e.Var, e.Val⟩) → (JF effs s)[v.toNat]? = some (QcT effs v s)) (fun _ => ?_) ?_ effs
 ·obtain ⟨x, hx, _⟩ := hs.at h0 h1
  simp [JF, QcT, hx]
 ·intro l e ih h
  have i1 := ih fun e' he' => h e' (by simp [he'])
  have h2 := h e (by simp)
  have hok := Qc5 hs (effs := l) fun e' he' => h e' (by simp [he'])
  have hlen := hok.len
  rw [Qer, Qc3]
  by_cases hc : Ki e.When s
  ·rw [if_pos hc]
   by_cases hv : e.Var = v
   ·rw [if_pos ⟨hv, hc⟩, hv, List.getElem?_set_self (by omega)]
   ·have := h2.1
    rw [if_neg (fun h => hv h.1), List.getElem?_set_ne (by simp only at this; omega)]
    exact i1
  ·rw [if_neg hc, if_neg (fun h => hc h.2)]
   exact i1
theorem Qoo {t : Task} (ht : GoodT t) {i : Nat} {o : Op} (hi : t.Ops[i]? = some o) {s : List Int} (hs : StateOK t.Vars s) :
  Ok (Qbq t s (i : Int)) fun r => (Ki o.Pre s → r = (JF o.Effs s, true)) ∧ (¬ Ki o.Pre s → r = ([], false)) := by
 classical
 have hop := ht.op o (List.mem_of_getElem? hi)
 have hlt := (List.getElem?_eq_some_iff.1 hi).1
 have hnv := ht.nv
 have hsl := hs.len
 unfold Qbq
 have a1 : ¬ ((i : Int) < 0) := by omega
 have a2 : ¬ ((t.Ops.length : Int) ≤ (i : Int)) := by omega
 simp only [a1, a2, decide_false, Bool.false_eq_true, if_false, Qo, hi, Option.bind_some, Qjh hop.pre hsl]
 by_cases h : Ki o.Pre s
 ·simp only [h, decide_true, Bool.not_true, Bool.false_eq_true, if_false]
  rw [JB (by simp; omega)]
  simp only [Option.bind_some, List.nil_append]
  refine Ok.bind (QQ (fun j m => m = JF (o.Effs.take j) s) (by simp [JF]) ?_ ?_)
  ·rintro j m hj rfl
   obtain ⟨e, he⟩ := Qt hj
   have her := hop.eff e (List.mem_of_getElem? he)
   have hok := Qc5 hs (effs := o.Effs.take j) fun e' he' => (hop.eff e' (List.mem_of_mem_take he')).2
   have her2 := her.2
   unfold InR at her2
   simp only at her2
   have hlen := hok.len
   obtain ⟨y, hy, _⟩ := hok.at her2.1 her2.2.1
   simp only [Qo, he, Option.bind_some, Qjh her.1 hsl]
   have i1 : Q9 (JF (o.Effs.take j) s) e.Var = some y := by unfold Q9; rw [if_pos her2.1, hy]
   have i2 : JL (JF (o.Effs.take j) s) e.Var e.Val = some ((JF (o.Effs.take j) s).set e.Var.toNat e.Val) := by unfold JL; rw [if_pos ⟨her2.1, by omega⟩]
   rw [Q6 he, Qer]
   by_cases hc : Ki e.When s
   ·simp only [hc, decide_true, if_true, i1, i2, Option.bind_some]
    exact Ok.ret Z
   ·simp only [hc, decide_false, Bool.false_eq_true, if_false, Option.bind_some]
    exact Ok.ret Z
  ·rintro m rfl
   rw [List.take_length]
   exact Ok.ret ⟨fun _ => rfl, fun h' => absurd trivial h'⟩
 ·simp only [h, decide_false, Bool.not_false, if_true]
  exact Ok.ret ⟨fun h' => h'.elim, fun _ => rfl⟩
/-! ### small tasks -/
theorem QnR {vars : List Int} (hv : ∀ n ∈ vars, 1 ≤ n ∧ n ≤ 64) {most : Int} (h0 : 64 ≤ most) (h1 : most ≤ 100000) : Ok (Qcb vars most) fun m => (JW vars ≤ most ∧ m = JW vars) ∨ (most < JW vars ∧ m = most + 1) := by
 unfold Qcb
 rw [QD (n := most + 1) (by omega) (by omega)]
 refine Ok.ctl (fun i n => n = JW (vars.take i) ∧ n ≤ most) (fun r => most < JW vars ∧ r = most + 1) ⟨by simp [JW], by omega⟩ ?_ ?_ ?_
 ·rintro i n hi ⟨h2, h3⟩
  obtain ⟨k, hk⟩ := Qt hi
  have hkr := hv k (List.mem_of_getElem? hk)
  have hpos := QbN (l := vars.take i) fun x hx => (hv x (List.mem_of_mem_take hx)).1
  rw [← h2] at hpos
  have hmul : JW (vars.take (i + 1)) = n * k := by rw [Q6 hk, QbF, ← h2]; simp [JW]
  have hmm : min (max k 0) (most + 1) = k := by omega
  have b1 : n * k ≤ 100000 * 64 := Int.mul_le_mul (by omega) hkr.2 (by omega) (by omega)
  have b0 : 0 ≤ n * k := Int.mul_nonneg (by omega) (by omega)
  simp only [Qo, hk, Option.bind_some, hmm, QD (n := n * k) (by omega) (by omega)]
  by_cases h4 : most < n * k
  ·simp only [h4, decide_true, if_true]
   have := QaX (l := vars) (fun x hx => (hv x hx).1) (i + 1)
   exact Ok.ret ⟨by omega, Z⟩
  ·simp only [h4, decide_false, Bool.false_eq_true, if_false]
   exact Ok.ret ⟨hmul.symm, by omega⟩
 ·rintro r h
  exact Ok.ret (.inr h)
 ·rintro n ⟨h2, h3⟩
  rw [List.take_length] at h2
  exact Ok.ret (.inl ⟨by omega, h2⟩)
structure SmallT (t : Task) : Prop where
 g : GoodT t
 nv : t.Vars.length ≤ 12
 no : t.Ops.length ≤ 20
 ne : ∀ o ∈ t.Ops, o.Effs.length ≤ 8
 p : JW t.Vars ≤ 512
open Classical in
theorem QnA (t : Task) : Qbo t = some (decide (SmallT t)) := by
 refine Ok.eq ?_
 unfold Qbo
 by_cases h1 : 12 < (t.Vars.length : Int)
 ·simp only [h1, decide_true, Bool.true_or, if_true]
  exact Ok.ret (by rw [eq_comm, decide_eq_false_iff_not]; intro h; have := h.nv; omega)
 by_cases h2 : 20 < (t.Ops.length : Int)
 ·simp only [h1, h2, decide_true, Bool.or_true, if_true]
  exact Ok.ret (by rw [eq_comm, decide_eq_false_iff_not]; intro h; have := h.no; omega)
 simp only [h1, h2, decide_false, Bool.or_self, Bool.false_eq_true, if_false]
 rw [Ya (r := false) (fun o => o.Effs.length ≤ 8)]
 ·by_cases h3 : ∀ o ∈ t.Ops, o.Effs.length ≤ 8
  ·rw [if_pos h3, Qqm]
   by_cases h4 : GoodT t
   ·obtain ⟨m, hm, hm2⟩ := QnR h4.v (most := 512) (by omega) (by omega)
    simp only [h4, decide_true, if_true, Option.bind_some, hm]
    refine Ok.ret ?_
    rcases hm2 with ⟨h5, rfl⟩ | ⟨h5, rfl⟩
    ·rw [decide_eq_true h5, eq_comm, decide_eq_true_iff]
     exact ⟨h4, by omega, by omega, h3, h5⟩
    ·rw [decide_eq_false (by omega), eq_comm, decide_eq_false_iff_not]
     intro h; have := h.p; omega
   ·simp only [h4, decide_false, Bool.false_eq_true, if_false, Option.bind_some]
    exact Ok.ret (by rw [eq_comm, decide_eq_false_iff_not]; exact fun h => h4 h.g)
  ·rw [if_neg h3]
   exact Ok.ret (by rw [eq_comm, decide_eq_false_iff_not]; exact fun h => h3 h.ne)
 ·intro i o ho
  simp only [Qo, ho, Option.bind_some]
  by_cases h : 8 < (o.Effs.length : Int)
  ·have : ¬ o.Effs.length ≤ 8 := by omega
   simp [h, this]
  ·have : o.Effs.length ≤ 8 := by omega
   simp [h, this]
theorem Qct {vars : List Int} (hv : ∀ n ∈ vars, 1 ≤ n ∧ n ≤ 64) {l : List Int} (hn : l.Nodup) (hl : ∀ w ∈ l, 0 ≤ w ∧ w < (vars.length : Int)) : JW (l.map (Ka vars)) ≤ JW vars := by
 have hM : ((List.range vars.length).map fun (i : Nat) => (i : Int)).Nodup := by
  refine List.pairwise_map.2 (List.Pairwise.imp ?_ List.nodup_range)
  intro a b h e
  omega
 obtain ⟨M', hp, _, hm⟩ := Qkc l ((List.range vars.length).map fun (i : Nat) => (i : Int)) hn hM (fun c hc => by
  have := hl c hc
  exact List.mem_map.2 ⟨c.toNat, by simp; omega, by omega⟩)
 have hvars : ((List.range vars.length).map fun (i : Nat) => (i : Int)).map (Ka vars) = vars := by
  apply List.ext_getElem?
  intro i
  by_cases hi : i < vars.length
  ·rw [Qj2 hi]; simp [hi]
  ·rw [List.getElem?_eq_none (by simp; omega), List.getElem?_eq_none (by omega)]
 have h1 := Qhx (hp.map (Ka vars))
 rw [hvars, List.map_append] at h1
 rw [h1]
 have hpos : ∀ w : Int, 0 ≤ w ∧ w < (vars.length : Int) → 1 ≤ Ka vars w := by
  intro w hw
  obtain ⟨d, hd⟩ := Qt (xs := vars) (i := w.toNat) (by omega)
  have := hv d (List.mem_of_getElem? hd)
  unfold Ka
  rw [hd]
  exact this.1
 refine Qdh ?_ ?_
 ·intro x hx
  obtain ⟨w, hw, rfl⟩ := List.mem_map.1 hx
  exact hpos w (hl w hw)
 ·intro x hx
  obtain ⟨w, hw, rfl⟩ := List.mem_map.1 hx
  obtain ⟨i, hi, rfl⟩ := List.mem_map.1 ((hm w).1 hw).1
  exact hpos _ ⟨by omega, by have := List.mem_range.1 hi; omega⟩
end Go.Pw
/- -/
set_option maxHeartbeats 4000000
namespace Go.Pw
theorem Qe9 {α β : Type} {f : α → List β} {m : Nat} : ∀ {xs : List α}, (∀ x ∈ xs, (f x).length = m) → ∀ {r y : Nat} {x : α} {z : β}, xs[r]? = some x → (f x)[y]? = some z → (xs.flatMap f)[r * m + y]? = some z
 | [], _, r, _, _, _, hx, _ => by simp at hx
 | a :: xs, h, 0, y, x, z, hx, hz => by
  simp only [List.getElem?_cons_zero, Option.some.injEq] at hx
  subst hx
  have hlt := (List.getElem?_eq_some_iff.1 hz).1
  rw [List.flatMap_cons, Nat.zero_mul, Nat.zero_add, List.getElem?_append_left hlt]
  exact hz
 | a :: xs, h, r + 1, y, x, z, hx, hz => by
  have ha := h a (by simp)
  rw [List.flatMap_cons, List.getElem?_append_right (by rw [ha, Nat.succ_mul]; omega), ha, show (r + 1) * m + y - m = r * m + y by rw [Nat.succ_mul]; omega]
  exact Qe9 (fun x hx => h x (by simp [hx])) (by simpa using hx) hz
theorem QiT {α β : Type} {f : α → List β} {m : Nat} : ∀ {xs : List α}, (∀ x ∈ xs, (f x).length = m) → (xs.flatMap f).length = xs.length * m
 | [], _ => by simp
 | a :: xs, h => by rw [List.flatMap_cons, List.length_append, h a (by simp), QiT fun x hx => h x (by simp [hx]), List.length_cons, Nat.succ_mul, Nat.add_comm]
def rkZ (l : List (Int × Int)) : Int := l.foldl (fun n p => n * p.1 + p.2) 0
def rk (vars s : List Int) : Int := rkZ (vars.zip s)
theorem QkP : rk [] [] = 0 := rfl
theorem Qjs {vars s : List Int} (h : s.length = vars.length) (k x : Int) : rk (vars ++ [k]) (s ++ [x]) = rk vars s * k + x := by
 unfold rk rkZ
 rw [List.zip_append (by omega)]
 simp
theorem StateOK.nil : StateOK [] [] := ⟨rfl, by simp⟩
theorem StateOK.eq_nil {s : List Int} (h : StateOK [] s) : s = [] := List.eq_nil_of_length_eq_zero h.len
theorem QfD (vars : List Int) (k : Int) : QN (vars ++ [k]) = Qd9 k (QN vars) := by
 unfold QN
 rw [List.reverse_append, List.reverse_singleton, List.singleton_append]
 rfl
theorem Qjj {vars : List Int} : (∀ n ∈ vars, 1 ≤ n) → ∀ {s : List Int}, StateOK vars s → 0 ≤ rk vars s ∧ (QN vars)[(rk vars s).toNat]? = some s := by
 refine Qdy (P := fun vars => (∀ n ∈ vars, 1 ≤ n) → ∀ {s : List Int}, StateOK vars s → 0 ≤ rk vars s ∧ (QN vars)[(rk vars s).toNat]? = some s) ?_ ?_ vars
 ·intro _ s hs
  rw [hs.eq_nil]
  exact ⟨by simp [QkP], by simp [QkP, QN, stR]⟩
 ·intro vars k ih h s hs
  obtain ⟨s', x, rfl, hs', h0, h1⟩ := QfJ.1 hs
  obtain ⟨i0, i1⟩ := ih (fun n hn => h n (by simp [hn])) hs'
  have hk := h k (by simp)
  have hp : 0 ≤ rk vars s' * k := Int.mul_nonneg i0 (by omega)
  rw [Qjs hs'.len]
  refine ⟨by omega, ?_⟩
  rw [QfD]
  have := Qe9 (f := fun s => (List.range k.toNat).map fun (x : Nat) => s ++ [(x : Int)]) (m := k.toNat) (xs := QN vars) (by simp) i1 (y := x.toNat) (z := s' ++ [x]) (by
   rw [List.getElem?_map, List.getElem?_range (by omega)]
   simp [Int.toNat_of_nonneg h0])
  have e : (rk vars s' * k + x).toNat = (rk vars s').toNat * k.toNat + x.toNat := by
   apply Int.ofNat.inj
   show (((rk vars s' * k + x).toNat : Nat) : Int) = (((rk vars s').toNat * k.toNat + x.toNat : Nat) : Int)
   rw [Int.natCast_add, Int.natCast_mul, Int.toNat_of_nonneg i0, Int.toNat_of_nonneg (by omega : 0 ≤ k), Int.toNat_of_nonneg h0, Int.toNat_of_nonneg (by omega)]
  rw [e]
  exact this
theorem Qef {vars : List Int} (hv : ∀ n ∈ vars, 1 ≤ n) {s : List Int} (h : StateOK vars s) : 0 ≤ rk vars s ∧ rk vars s < JW vars := by
 obtain ⟨h0, h1⟩ := Qjj hv h
 have := (List.getElem?_eq_some_iff.1 h1).1
 have hl := QbV (vars := vars) fun x hx => by have := hv x hx; omega
 omega
theorem Qnm {vars : List Int} (hv : ∀ n ∈ vars, 1 ≤ n) {s s' : List Int} (h : StateOK vars s) (h' : StateOK vars s') (e : rk vars s = rk vars s') : s = s' := by
 have h1 := (Qjj hv h).2
 have h2 := (Qjj hv h').2
 rw [e, h2] at h1
 exact (Zu h1).symm
theorem Qnd {vars : List Int} : (∀ n ∈ vars, 1 ≤ n) → ∀ {i : Nat} {s : List Int}, (QN vars)[i]? = some s → rk vars s = (i : Int) := by
 refine Qdy (P := fun vars => (∀ n ∈ vars, 1 ≤ n) → ∀ {i : Nat} {s : List Int}, (QN vars)[i]? = some s → rk vars s = (i : Int)) ?_ ?_ vars
 ·intro _ i s hs
  cases i with
  | zero =>
   simp only [QN, List.reverse_nil, stR, List.getElem?_cons_zero, Option.some.injEq] at hs
   subst hs
   rfl
  | succ i => simp [QN, stR] at hs
 ·intro vars k ih h i s hs
  have hk := h k (by simp)
  rw [QfD] at hs
  have hlt := (List.getElem?_eq_some_iff.1 hs).1
  have hlen : (Qd9 k (QN vars)).length = (QN vars).length * k.toNat := QiT (by simp)
  have hkp : 0 < k.toNat := by omega
  have hq : i / k.toNat < (QN vars).length := by
   rw [hlen] at hlt
   exact (Nat.div_lt_iff_lt_mul hkp).2 hlt
  obtain ⟨s', hs'⟩ := Qt hq
  have hm := Nat.mod_lt i hkp
  have := Qe9 (f := fun s => (List.range k.toNat).map fun (x : Nat) => s ++ [(x : Int)]) (m := k.toNat) (xs := QN vars) (by simp) hs' (y := i % k.toNat) (z := s' ++ [((i % k.toNat : Nat) : Int)]) (by
   rw [List.getElem?_map, List.getElem?_range hm]
   simp)
  rw [Nat.div_add_mod'] at this
  rw [show ((QN vars).flatMap fun s => (List.range k.toNat).map fun (x : Nat) => s ++ [(x : Int)]) = Qd9 k (QN vars) from rfl, hs] at this
  have e := Zu this
  subst e
  have hr := ih (fun n hn => h n (by simp [hn])) hs'
  have hsl := (QaW.1 (List.mem_of_getElem? hs')).len
  rw [Qjs hsl, hr]
  have hmod := Nat.div_add_mod' i k.toNat
  have hkk : ((k.toNat : Nat) : Int) = k := Int.toNat_of_nonneg (by omega)
  have hz : ((i / k.toNat : Nat) : Int) * k + ((i % k.toNat : Nat) : Int) = ((i / k.toNat * k.toNat + i % k.toNat : Nat) : Int) := by rw [Int.natCast_add, Int.natCast_mul, hkk]
  rw [hz, hmod]
theorem StateOK.take {vars s : List Int} (h : StateOK vars s) (m : Nat) : StateOK (vars.take m) (s.take m) := by
 refine ⟨by simp [h.len], fun i x d hx hd => ?_⟩
 rw [List.getElem?_take] at hx hd
 by_cases hi : i < m
 ·rw [if_pos hi] at hx hd
  exact h.r i x d hx hd
 ·rw [if_neg hi] at hx; cases hx
end Go.Pw
/- -/
set_option maxHeartbeats 4000000
namespace Go.Pw
theorem SmallT.roomP {t : Task} (h : SmallT t) {p : List Int} (hp : PatOK t p) : Qg4 t p := by
 have hpb := Qct h.g.v hp.n hp.r
 have hD := QbN (hp.dm h.g.v)
 have hq := h.p
 have hno := h.no
 have hpp := QbN fun x hx => (h.g.v x hx).1
 generalize hDD : JW (p.map (Ka t.Vars)) = D at *
 have hq0 : 0 ≤ JW t.Vars / D := Int.ediv_nonneg (by omega) (by omega)
 have hq1 : JW t.Vars / D ≤ JW t.Vars := Int.ediv_le_self _ (by omega)
 have hq2 : D * (JW t.Vars / D) ≤ JW t.Vars := Int.mul_ediv_self_le (by omega)
 refine ⟨by omega, (JW t.Vars / D).toNat, fun o ho fr hf hm => ?_, by omega, ?_⟩
 ·have h2 := Qct h.g.v (l := p ++ fr) (List.nodup_append.2 ⟨hp.n, hf, by rintro a ha b hb rfl; exact ((hm a).1 hb).1 ha⟩) (by
   intro w hw
   rcases List.mem_append.1 hw with hw | hw
   ·exact hp.r w hw
   ·obtain ⟨_, _, e, he, _, f, hf, rfl⟩ := (hm w).1 hw
    have := ((h.g.op o ho).eff e he).1.r f hf
    exact ⟨this.1, this.2.1⟩)
  rw [List.map_append, QbF, hDD] at h2
  rw [Int.toNat_of_nonneg hq0]
  rw [Int.mul_comm] at h2
  exact (Int.le_ediv_iff_mul_le (by omega)).2 h2
 ·have h3 : ((D.toNat * (JW t.Vars / D).toNat : Nat) : Int) ≤ 512 := by
   rw [Int.natCast_mul, Int.toNat_of_nonneg hq0, Int.toNat_of_nonneg (by omega)]
   omega
  have h4 : D.toNat * (JW t.Vars / D).toNat ≤ 512 := by omega
  have h5 : D.toNat * (JW t.Vars / D).toNat * t.Ops.length ≤ 512 * 20 := Nat.mul_le_mul h4 hno
  rw [hDD, Nat.mul_right_comm]
  omega
end Go.Pw
/- -/
set_option maxHeartbeats 4000000
namespace Go.Pw
theorem Qhs (a b : System) (l : Nat) : (Qir a b l).length = (J0 a l).length * (J0 b l).length := by
 unfold Qir
 induction J0 a l with
 | nil => simp
 | cons d r ih => rw [List.flatMap_cons, List.length_append, ih, List.length_map, List.length_cons, Nat.succ_mul, Nat.add_comm]
theorem Qk7 {a b : System} (ha : VSys a) (hb : VSys b) (hc : a.Costs = b.Costs) (hs : a.States * b.States ≤ 4096) {C : Nat} (hC : ∀ l, l < a.Costs.length → (J0 a l).length * (J0 b l).length ≤ C) (hm : C * a.Costs.length ≤ 65536) :
  Ok (Yc a b) fun r => r.1 = none ∧ ProdRes a b r.2 ∧ r.2.Edges.length ≤ C * a.Costs.length := by
 have hC1 : ∀ l, l < a.Costs.length → C ≤ 65536 := fun l hl => Nat.le_trans (Nat.le_mul_of_pos_right C (by omega)) hm
 unfold Yc
 have va := Qdr.2 ha
 have vb := Qdr.2 hb
 simp only [tV, va, vb, QlV, hc, Option.bind_some, Bool.not_true, Bool.false_eq_true, if_false, decide_true]
 have s1 := ha.s1; have s2 := ha.s2; have s3 := hb.s1; have s4 := hb.s2; have i0 := ha.i0; have i1 := ha.i1; have j0 := hb.i0; have j1 := hb.i1
 have g1 := ha.g; have g2 := hb.g; have c1 := ha.c; have c2 := hb.c; have e1 := ha.e; have e2 := hb.e
 have m1 := Qjk (x := a.States) (n := b.States) (by omega) (by omega) (by omega) (by omega)
 have m2 := Qjk (x := a.Init) (n := b.States) (by omega) (by omega) (by omega) (by omega)
 have w1 : IntKind.i64.wrap (a.States * b.States) = a.States * b.States := QD (by omega) (by omega)
 have w2 : IntKind.i64.wrap (a.Init * b.States) = a.Init * b.States := QD (by omega) (by omega)
 have w3 : IntKind.i64.wrap (a.Init * b.States + b.Init) = a.Init * b.States + b.Init := QD (by omega) (by omega)
 rw [w1, w2, w3]
 have hng : ¬ 4096 < a.States * b.States := by omega
 simp only [hng, decide_false, Bool.false_eq_true, if_false]
 have hclone : Qu b.Costs = some b.Costs := by
  unfold Qu
  rw [JB (by simp; omega)]
  simp
 rw [hclone]
 simp only [Option.bind_some]
 refine Ok.must (by simp; omega) ?_
 have hga : a.States.toNat = a.Goals.length := by omega
 have hgb : b.States.toNat = b.Goals.length := by omega
 have hmust : must (decide (b.States ≤ 9223372036854775807)) = some () := by unfold must; rw [if_pos (by simp; omega)]
 simp only [hmust, Option.bind_some, hga, hgb]
 rw [Qlk a b (by omega) (by omega) _ (fun _ _ => rfl)]
 simp only [Option.bind_some]
 obtain ⟨L, hL, hL1, hL2⟩ := QeS a ha
 obtain ⟨M, hM, hM1, hM2⟩ := QeS b hb
 rw [hL, hM]
 simp only [Option.bind_some, hL1]
 refine Ok.bind (QQ (fun i many => 0 ≤ many ∧ many ≤ ((C * i : Nat) : Int)) ?_ ?_ ?_)
 ·constructor
  ·exact Int.le_refl _
  ·exact Int.natCast_nonneg _
 ·rintro i many hi ⟨h1, h2⟩
  rw [Qo, hL2 i hi, Qo, hM2 i (by rw [← hc]; exact hi)]
  simp only [Option.bind_some]
  have hprod := hC i hi
  have hc1 := hC1 i hi
  have htot : C * (i + 1) ≤ C * a.Costs.length := Nat.mul_le_mul_left _ hi
  have hsum : C * (i + 1) = C * i + C := Nat.mul_succ _ _
  have hcast : ((J0 a i).length : Int) * ((J0 b i).length : Int) = (((J0 a i).length * (J0 b i).length : Nat) : Int) := by simp
  rw [hcast, QD (n := (((J0 a i).length * (J0 b i).length : Nat) : Int)) (by omega) (by omega), QD (by omega) (by omega)]
  refine Ok.ret ⟨by omega, by omega⟩
 ·rintro many ⟨h1, h2⟩
  have hno : ¬ 65536 < many := by omega
  simp only [hno, decide_false, Bool.false_eq_true, if_false]
  have hloop : forS (fun i11301 => fun (z12151 : List Edge) => (Q9 L (i11301 : Int)).bind fun x13032 =>
    (forS (fun i13040 => fun (l13297 : List Edge) => (Q9 x13032 (i13040 : Int)).bind fun x13598 =>
    (Q9 M (i11301 : Int)).bind fun x13618 =>
    (forS (fun i13626 => fun (l13676 : List Edge) => (Q9 x13618 (i13626 : Int)).bind fun x13775 =>
    (app 24 l13676 [(⟨IntKind.i64.wrap ((IntKind.i64.wrap (x13598.From * b.States)) + x13775.From), (i11301 : Int), IntKind.i64.wrap ((IntKind.i64.wrap (x13598.To * b.States)) + x13775.To)⟩ : Edge)]).bind fun l13802 =>
    some l13802) (x13618.length) 0 l13297).bind (fun (l13676 : List Edge) => some l13676)) (x13032.length) 0 z12151).bind (fun (l13297 : List Edge) => some l13297)) a.Costs.length 0 [] = some (Qit a b) := by
   have := QhP a.Costs.length (Qir a b) (s0 := []) (B := fun i11301 => fun (z12151 : List Edge) => (Q9 L (i11301 : Int)).bind fun x13032 =>
    (forS (fun i13040 => fun (l13297 : List Edge) => (Q9 x13032 (i13040 : Int)).bind fun x13598 =>
    (Q9 M (i11301 : Int)).bind fun x13618 =>
    (forS (fun i13626 => fun (l13676 : List Edge) => (Q9 x13618 (i13626 : Int)).bind fun x13775 =>
    (app 24 l13676 [(⟨IntKind.i64.wrap ((IntKind.i64.wrap (x13598.From * b.States)) + x13775.From), (i11301 : Int), IntKind.i64.wrap ((IntKind.i64.wrap (x13598.To * b.States)) + x13775.To)⟩ : Edge)]).bind fun l13802 =>
    some l13802) (x13618.length) 0 l13297).bind (fun (l13676 : List Edge) => some l13676)) (x13032.length) 0 z12151).bind (fun (l13297 : List Edge) => some l13297)) ?_
   ·simpa [Qit] using this
   ·intro l s hl hsl
    have hsl' : s.length ≤ 4096 * 65536 := by
     rw [hsl, List.nil_append]
     have hfl := QcX (xs := List.range l) (g := Qir a b) (M := C) fun k hk => by rw [Qhs]; exact hC k (by have := List.mem_range.1 hk; omega)
     have hb2 : (List.range l).length * C ≤ 4096 * 65536 := Nat.mul_le_mul (by simp; omega) (hC1 l hl)
     omega
    have hCl := hC l hl
    have hC1l := hC1 l hl
    simp only [Qo, hL2 l hl, hM2 l (by rw [← hc]; exact hl), Option.bind_some]
    rw [QaV (J0 a l) (fun d => (J0 b l).map fun f => mkE b.States (l : Int) d f) (s0 := s)]
    ·rfl
    ·intro i d t hd ht
     have hdm := KL.1 (List.mem_of_getElem? hd)
     have htl : t.length ≤ 4096 * 65536 + 65536 := by
      rw [ht, List.length_append]
      have : (((J0 a l).take i).flatMap fun d => (J0 b l).map fun f => mkE b.States (l : Int) d f).length ≤ (J0 a l).length * (J0 b l).length := by
       refine Nat.le_trans (QcX (M := (J0 b l).length) fun d _ => by rw [List.length_map]; exact Nat.le_refl _) (Nat.mul_le_mul_right _ ?_)
       simp; omega
      omega
     simp only [hd, Option.bind_some]
     rw [QaV (J0 b l) (fun f => [mkE b.States (l : Int) d f]) (s0 := t)]
     ·simp [Qa7]
     ·intro j f u hf hu
      have hfm := KL.1 (List.mem_of_getElem? hf)
      have hul : u.length ≤ 4096 * 65536 + 65536 + 65536 := by
       rw [hu, List.length_append, Qa7, List.length_map, List.length_take]
       have := Qmp b l
       omega
      simp only [hf, Option.bind_some]
      rw [QnN ha hb hdm.1 hfm.1, JB (by simp; omega)]
      rfl
  rw [hloop]
  simp only [Option.bind_some]
  have hall : (Qit a b).length ≤ C * a.Costs.length := by
   have := QcX (xs := List.range a.Costs.length) (g := Qir a b) (M := C) fun k hk => by rw [Qhs]; exact hC k (List.mem_range.1 hk)
   rw [List.length_range, Nat.mul_comm] at this
   exact this
  obtain ⟨k, hk1, hk2, hk3⟩ := Qmm (QhJ ha hb) (by omega)
  rw [show QdI (Qit a b) = KE (Qit a b) from rfl, hk1]
  simp only [Option.bind_some]
  refine Ok.ret ⟨Z, ⟨Z, Z, hc.symm, Z, hk2, fun e => (hk3 e).trans (QnQ ha e)⟩, ?_⟩
  have hperm : k.Perm (Qit a b) := (List.perm_ext_iff_of_nodup hk2.nodup (QhJ ha hb)).2 hk3
  show k.length ≤ _
  rw [hperm.length_eq]
  have hall' := hall
  rw [hc] at hall'
  exact hall'
theorem QiU {α β : Type} {f : α → List β} {m : Nat} (hf : ∀ g, (f g).length = m) : ∀ gs : List α, (gs.flatMap f).length = gs.length * m
 | [] => by simp
 | g :: gs => by rw [List.flatMap_cons, List.length_append, hf, QiU hf gs, List.length_cons, Nat.add_mul, Nat.one_mul, Nat.add_comm]
theorem ProdRes.v {a b x : System} (h : ProdRes a b x) (ha : VSys a) (hb : VSys b) (hc : a.Costs = b.Costs) (hs : a.States * b.States ≤ 4096) (hl : x.Edges.length ≤ 65536) : VSys x := by
 have s1 := ha.s1; have s2 := hb.s1; have i0 := ha.i0; have i1 := ha.i1; have j0 := hb.i0; have j1 := hb.i1
 have g1 := ha.g; have g2 := hb.g
 have hlin : ∀ u v : Int, 0 ≤ u → u < a.States → 0 ≤ v → v < b.States → 0 ≤ u * b.States + v ∧ u * b.States + v < a.States * b.States := by
  intro u v h1 h2 h3 h4
  have e1 : 0 ≤ u * b.States := Int.mul_nonneg h1 (by omega)
  have e2 : (u + 1) * b.States ≤ a.States * b.States := Int.mul_le_mul_of_nonneg_right (by omega) (by omega)
  rw [Int.add_mul, Int.one_mul] at e2
  omega
 have hpos : 1 ≤ a.States * b.States := by
  have := hlin 0 0 (Int.le_refl _) (by omega) (Int.le_refl _) (by omega)
  omega
 have hi := hlin a.Init b.Init i0 i1 j0 j1
 refine ⟨by rw [h.s]; exact hpos, by rw [h.s]; exact hs, by rw [h.i]; exact hi.1, by rw [h.i, h.s]; exact hi.2, ?_, by rw [h.c]; exact ha.c, hl, by rw [h.c]; exact ha.cost, ?_, ?_⟩
 ·rw [h.g, h.s, ← g1, ← g2]
  unfold Qhn
  rw [QiU (m := b.Goals.length) fun g => by simp]
  simp
 ·intro d hd
  obtain ⟨e, he, f, hf, hef, rfl⟩ := (h.e d).1 hd
  obtain ⟨a1, a2, a3, a4, a5, a6⟩ := ha.edge e he
  obtain ⟨b1, b2, b3, b4, b5, b6⟩ := hb.edge f hf
  have k1 := hlin e.From f.From a1 a2 b1 b2
  have k2 := hlin e.To f.To a3 a4 b3 b4
  rw [h.s, h.c]
  exact ⟨k1.1, k1.2, k2.1, k2.2, a5, a6⟩
 ·intro i d e hd he
  have hp := List.pairwise_iff_getElem.1 h.o
  obtain ⟨h1, rfl⟩ := List.getElem?_eq_some_iff.1 hd
  obtain ⟨h2, rfl⟩ := List.getElem?_eq_some_iff.1 he
  exact hp i (i + 1) h1 h2 (by omega)
end Go.Pw
/- -/
set_option maxHeartbeats 4000000
namespace Go.Pw
theorem QbO {α : Type} : ∀ {C M : List α}, C.Nodup → (∀ x ∈ C, x ∈ M) → C.length ≤ M.length
 | [], _, _, _ => by simp
 | c :: C, M, hn, h => by
  classical
  obtain ⟨h1, h2⟩ := List.nodup_cons.1 hn
  have hm := h c (by simp)
  have := QbO (C := C) (M := M.erase c) h2 fun x hx => (List.mem_erase_of_ne (fun e => h1 (by rw [← e]; exact hx))).2 (h x (by simp [hx]))
  rw [List.length_erase_of_mem hm] at this
  have := List.length_pos_of_mem hm
  simp only [List.length_cons]
  omega
def cE (o : Op) : List Effect := o.Effs.filter fun e => !e.When.isEmpty
def QjS (o : Op) (v : Int) : Nat := ((cE o).filter fun e => decide (e.Var = v)).length
theorem Qlo (v : Int) (effs : List Effect) : ∃ b : Option Int, ∀ s : List Int, QcT effs v s = b.getD (s[v.toNat]?.getD 0) ∨ ∃ e ∈ effs.filter (fun e => !e.When.isEmpty), e.Var = v ∧ e.Val = QcT effs v s := by
 refine Qdy (P := fun effs => ∃ b : Option Int, ∀ s : List Int, QcT effs v s = b.getD (s[v.toNat]?.getD 0) ∨ ∃ e ∈ effs.filter (fun e => !e.When.isEmpty), e.Var = v ∧ e.Val = QcT effs v s) ⟨none, fun s => .inl Z⟩ ?_ effs
 rintro l e ⟨b, ih⟩
 by_cases h1 : e.Var = v ∧ e.When = []
 ·refine ⟨some e.Val, fun s => .inl ?_⟩
  rw [Qc3, if_pos ⟨h1.1, by rw [h1.2]; intro x hx; simp at hx⟩]
  rfl
 ·refine ⟨b, fun s => ?_⟩
  rw [Qc3, List.filter_append]
  by_cases hc : e.Var = v ∧ Ki e.When s
  ·rw [if_pos hc]
   have hne : e.When ≠ [] := fun h => h1 ⟨hc.1, h⟩
   exact .inr ⟨e, by simp [hne], hc.1, Z⟩
  ·rw [if_neg hc]
   rcases ih s with h | ⟨e', he', h⟩
   ·exact .inl h
   ·exact .inr ⟨e', List.mem_append_left _ he', h⟩
theorem QmE {t : Task} {v : Int} {x : System} (ht : GoodT t) (h0 : 0 ≤ v) (h1 : v < (t.Vars.length : Int)) (hx : AtomRes t v x) {l : Nat} {o : Op} (ho : t.Ops[l]? = some o) :
  (J0 x l).length ≤ (Ka t.Vars v).toNat + QjS o v * (Ka t.Vars v).toNat := by
 have hnd : (J0 x l).Nodup := List.Pairwise.filter _ (Srt.nodup hx.srt)
 obtain ⟨b, hb⟩ := Qlo v o.Effs
 have hsub : ∀ d ∈ J0 x l, d ∈ ((List.range (Ka t.Vars v).toNat).map fun (a : Nat) => (⟨(a : Int), (l : Int), b.getD (a : Int)⟩ : Edge)) ++
   ((cE o).filter fun e => decide (e.Var = v)).flatMap fun e => (List.range (Ka t.Vars v).toNat).map fun (a : Nat) => (⟨(a : Int), (l : Int), e.Val⟩ : Edge) := by
  intro d hd'
  obtain ⟨hd1, hd2⟩ := KL.1 hd'
  obtain ⟨i, o', ho', hl, σ, s1, s2, s3, s4⟩ := (hx.mem d).1 hd1
  obtain rfl : i = l := by omega
  rw [ho] at ho'; cases ho'
  obtain ⟨y, hy, hy0, hy1⟩ := s1.at h0 h1
  have hbs := hb σ
  rw [hy] at s2
  have s2 := Zu s2
  obtain ⟨f, lb, g⟩ := d
  simp only at s2 s4 hl
  subst s2 hl
  rw [hy, ← s4] at hbs
  rw [List.mem_append]
  rcases hbs with h | ⟨e', he', hv', hval⟩
  ·left
   rw [List.mem_map]
   exact ⟨y.toNat, by simp; omega, by rw [Int.toNat_of_nonneg hy0, h]; rfl⟩
  ·right
   rw [List.mem_flatMap]
   refine ⟨e', by rw [List.mem_filter]; exact ⟨he', by simp [hv']⟩, ?_⟩
   rw [List.mem_map]
   exact ⟨y.toNat, by simp; omega, by rw [Int.toNat_of_nonneg hy0, hval]⟩
 have hlen := QbO hnd hsub
 rw [List.length_append, List.length_map, List.length_range] at hlen
 refine Nat.le_trans hlen (Nat.add_le_add_left ?_ _)
 unfold QjS
 exact QcX (M := (Ka t.Vars v).toNat) fun e he => by rw [List.length_map, List.length_range]; exact Nat.le_refl _
def EB (f S P : Nat) : Prop := f ≤ 2 ^ S * P
theorem EB.mul {f g S e P k : Nat} (h : EB f S P) (h' : EB g e k) : EB (f * g) (S + e) (P * k) := by
 unfold EB at *
 have := Nat.mul_le_mul h h'
 have e2 : 2 ^ (S + e) * (P * k) = 2 ^ S * P * (2 ^ e * k) := by rw [Nat.pow_add]; ac_rfl
 rw [e2]
 exact this
theorem EB.le {f f' S P : Nat} (h : EB f S P) (hf : f' ≤ f) : EB f' S P := Nat.le_trans hf h
theorem EB.top {f S P : Nat} (h : EB f S P) (hS : S ≤ 3) (hP : P ≤ 256) : f ≤ 2048 := by
 unfold EB at h
 have h1 : 2 ^ S ≤ 2 ^ 3 := Nat.pow_le_pow_right (by omega) hS
 have := Nat.mul_le_mul h1 hP
 omega
theorem QoY {t : Task} {v : Int} {x : System} (ht : GoodT t) (h0 : 0 ≤ v) (h1 : v < (t.Vars.length : Int)) (hx : AtomRes t v x) {l : Nat} {o : Op} (ho : t.Ops[l]? = some o) : EB (J0 x l).length (QjS o v) (Ka t.Vars v).toNat := by
 unfold EB
 refine Nat.le_trans (QmE ht h0 h1 hx ho) ?_
 have h := Nat.lt_two_pow_self (n := QjS o v)
 have : (1 + QjS o v) * (Ka t.Vars v).toNat ≤ 2 ^ QjS o v * (Ka t.Vars v).toNat := Nat.mul_le_mul_right _ (by omega)
 rw [Nat.add_mul, Nat.one_mul] at this
 exact this
theorem AtomRes.vsys {t : Task} {v : Int} {x : System} (ht : GoodT t) (h0 : 0 ≤ v) (h1 : v < (t.Vars.length : Int)) (hx : AtomRes t v x) : VSys x := by
 have hd := Y6 ht.v h0 h1
 have hno := ht.no
 obtain ⟨x0, hx0, hx1, hx2⟩ := ht.init.at h0 h1
 have hi := hx.i
 rw [hx0] at hi
 have hi := Zu hi
 have hs := hx.s
 refine ⟨by omega, by omega, by omega, by omega, by rw [hx.gl, hs], by rw [hx.c]; simpa using hno, hx.n, ?_, ?_, ?_⟩
 ·intro c hc
  rw [hx.c] at hc
  obtain ⟨o, ho, rfl⟩ := List.mem_map.1 hc
  exact ⟨(ht.op o ho).c0, (ht.op o ho).c1⟩
 ·intro d hd'
  obtain ⟨i, o, ho, hl, σ, s1, s2, s3, s4⟩ := (hx.mem d).1 hd'
  have hop := ht.op o (List.mem_of_getElem? ho)
  obtain ⟨y, hy, hy0, hy1⟩ := s1.at h0 h1
  have hr := QhR hy hy0 hy1 (effs := o.Effs) fun e he => (hop.eff e he).2
  rw [hy] at s2
  have s2 := Zu s2
  have hlt := (List.getElem?_eq_some_iff.1 ho).1
  rw [hs, hx.c, List.length_map]
  omega
 ·intro i d e hd' he
  have hp := List.pairwise_iff_getElem.1 hx.srt
  obtain ⟨h1, rfl⟩ := List.getElem?_eq_some_iff.1 hd'
  obtain ⟨h2, rfl⟩ := List.getElem?_eq_some_iff.1 he
  exact hp i (i + 1) h1 h2 (by omega)
theorem Qmo {a b z : System} (hz : ProdRes a b z) (ha : VSys a) (hb : VSys b) (l : Nat) : (J0 z l).length ≤ (J0 a l).length * (J0 b l).length := by
 rw [← Qhs]
 refine QbO (List.Pairwise.filter _ (Srt.nodup hz.o)) fun d hd => ?_
 obtain ⟨hd1, hd2⟩ := KL.1 hd
 obtain ⟨e, he, f, hf, hef, rfl⟩ := (hz.e d).1 hd1
 have hl : e.Label = (l : Int) := hd2
 unfold Qir
 rw [List.mem_flatMap]
 refine ⟨e, KL.2 ⟨he, hl⟩, ?_⟩
 rw [List.mem_map]
 exact ⟨f, KL.2 ⟨hf, by rw [← hef]; exact hl⟩, by rw [hl]⟩
end Go.Pw
/- -/
set_option maxHeartbeats 4000000
namespace Go.Pw
theorem QoA {vars s : List Int} (hv : ∀ n ∈ vars, 1 ≤ n ∧ n ≤ 64) (hp : JW vars ≤ 4096) (hs : StateOK vars s) : Qca vars s = some (rk vars s) := by
 unfold Qca
 refine Ok.eq (Ok.bind (QQ (fun i n => n = rk (vars.take i) (s.take i)) (by simp [QkP]) ?_ ?_))
 ·rintro i n hi rfl
  obtain ⟨x, hx⟩ := Qt hi
  obtain ⟨k, hk⟩ := Qt (xs := vars) (i := i) (by rw [← hs.len]; exact hi)
  have hkr := hv k (List.mem_of_getElem? hk)
  have hst := hs.take i
  have hst1 := hs.take (i + 1)
  have hpos : ∀ m, ∀ n ∈ vars.take m, 1 ≤ n := fun m n hn => (hv n (List.mem_of_mem_take hn)).1
  have h0 := Qef (hpos i) hst
  have h1 := Qef (hpos (i + 1)) hst1
  have hle := QaX (l := vars) (fun x hx => (hv x hx).1) i
  have hle1 := QaX (l := vars) (fun x hx => (hv x hx).1) (i + 1)
  have hsn : rk (vars.take (i + 1)) (s.take (i + 1)) = rk (vars.take i) (s.take i) * k + x := by
   rw [Q6 hk, Q6 hx, Qjs hst.len]
  have hxr := hs.r i x k hx hk
  have b1 : rk (vars.take i) (s.take i) * k ≤ 4096 * 64 := Int.mul_le_mul (by omega) hkr.2 (by omega) (by omega)
  have b0 : 0 ≤ rk (vars.take i) (s.take i) * k := Int.mul_nonneg h0.1 (by omega)
  rw [hsn]
  simp only [Qo, hk, hx, Option.bind_some]
  rw [QD (n := rk (vars.take i) (s.take i) * k) (by omega) (by omega), QD (by omega) (by omega)]
  exact Ok.ret Z
 ·rintro n rfl
  rw [List.take_length, hs.len, List.take_length]
  exact Ok.ret Z
def BA (t : Task) : QgI := fun v u w => ∃ (s : List Int) (i : Nat) (o : Op), StateOK t.Vars s ∧ t.Ops[i]? = some o ∧ Ki o.Pre s ∧ w = o.Cost ∧ rk t.Vars (JF o.Effs s) = (v : Int) ∧ rk t.Vars s = (u : Int)
def Qd6 (t : Task) : Nat → Prop := fun i => ∃ s, StateOK t.Vars s ∧ rk t.Vars s = (i : Int) ∧ Ki t.Goal s
def BE (t : Task) (e : base_Edge) : Prop := ∃ (s : List Int) (i : Nat) (o : Op), StateOK t.Vars s ∧ t.Ops[i]? = some o ∧ Ki o.Pre s ∧ e = ⟨rk t.Vars s, (i : Int), rk t.Vars (JF o.Effs s)⟩
theorem Qof {t : Task} (ht : SmallT t) : Ok (Qbp t) fun L => ∀ e, e ∈ L ↔ BE t e := by
 have hno := ht.no
 have hp := ht.p
 have hv1 : ∀ n ∈ t.Vars, 1 ≤ n := fun n hn => (ht.g.v n hn).1
 unfold Qbp
 rw [Qgh ht.g.v ht.g.nv (by omega)]
 have hL := QbV (vars := t.Vars) fun x hx => by have := ht.g.v x hx; omega
 have hLm : ∀ s, s ∈ QN t.Vars ↔ StateOK t.Vars s := fun s => QaW
 have hLr : ∀ (i : Nat) s, (QN t.Vars)[i]? = some s → rk t.Vars s = (i : Int) := fun i s h => Qnd hv1 h
 generalize QN t.Vars = L at *
 simp only [Option.bind_some]
 refine Ok.bind (QQ (fun j E => (∀ e, e ∈ E ↔ ∃ (s : List Int) (i : Nat) (o : Op), s ∈ L.take j ∧ t.Ops[i]? = some o ∧ Ki o.Pre s ∧ e = ⟨rk t.Vars s, (i : Int), rk t.Vars (JF o.Effs s)⟩) ∧ E.length ≤ j * 20) ⟨by simp, by simp⟩ ?_ ?_)
 ·rintro j E hj ⟨f2, f3⟩
  obtain ⟨s, hs⟩ := Qt hj
  have hsm := List.mem_of_getElem? hs
  have hok := (hLm s).1 hsm
  have hrk := hLr j s hs
  simp only [Qo, hs, Option.bind_some]
  refine Ok.bind (QQ (fun i E' => (∀ e, e ∈ E' ↔ e ∈ E ∨ ∃ (k : Nat) (o : Op), k < i ∧ t.Ops[k]? = some o ∧ Ki o.Pre s ∧ e = ⟨rk t.Vars s, (k : Int), rk t.Vars (JF o.Effs s)⟩) ∧ E'.length ≤ E.length + i) ⟨fun e => ⟨fun h => .inl h, fun h => ?_⟩, by simp⟩ ?_ ?_)
  ·rcases h with h | ⟨k, _, hk, _⟩
   ·exact h
   ·omega
  ·rintro i E' hi ⟨g2, g3⟩
   obtain ⟨o, ho⟩ := Qt hi
   have hop := ht.g.op o (List.mem_of_getElem? ho)
   obtain ⟨r, hr, hr1, hr2⟩ := Qoo ht.g ho hok
   rw [hr]
   simp only [Option.bind_some]
   have hnew : ∀ e : base_Edge, (∃ (k : Nat) (o' : Op), k < i + 1 ∧ t.Ops[k]? = some o' ∧ Ki o'.Pre s ∧ e = ⟨rk t.Vars s, (k : Int), rk t.Vars (JF o'.Effs s)⟩) ↔
     (∃ (k : Nat) (o' : Op), k < i ∧ t.Ops[k]? = some o' ∧ Ki o'.Pre s ∧ e = ⟨rk t.Vars s, (k : Int), rk t.Vars (JF o'.Effs s)⟩) ∨ (Ki o.Pre s ∧ e = ⟨rk t.Vars s, (i : Int), rk t.Vars (JF o.Effs s)⟩) := by
    intro e
    constructor
    ·rintro ⟨k, o', hk, ho', h2, h3⟩
     by_cases he : k = i
     ·subst he
      rw [ho] at ho'; cases ho'
      exact .inr ⟨h2, h3⟩
     ·exact .inl ⟨k, o', by omega, ho', h2, h3⟩
    ·rintro (⟨k, o', hk, ho', h⟩ | ⟨h2, rfl⟩)
     ·exact ⟨k, o', by omega, ho', h⟩
     ·exact ⟨i, o, by omega, ho, h2, Z⟩
   by_cases hh : Ki o.Pre s
   ·rw [hr1 hh]
    have haok := Qc5 hok (effs := o.Effs) fun e he => (hop.eff e he).2
    simp only [QI, if_true, QoA ht.g.v (by omega) haok, Option.bind_some]
    rw [JB (by simp only [List.length_singleton]; omega)]
    simp only [Option.bind_some]
    refine Ok.ret ⟨fun e => ?_, by simp; omega⟩
    rw [List.mem_append, List.mem_singleton, g2, hnew, ← hrk]
    constructor
    ·rintro ((h | h) | h)
     ·exact .inl h
     ·exact .inr (.inl h)
     ·exact .inr (.inr ⟨hh, h⟩)
    ·rintro (h | h | ⟨_, h⟩)
     ·exact .inl (.inl h)
     ·exact .inl (.inr h)
     ·exact .inr h
   ·rw [hr2 hh]
    simp only [QI, Bool.false_eq_true, if_false, Option.bind_some]
    refine Ok.ret ⟨fun e => ?_, by omega⟩
    rw [g2, hnew]
    constructor
    ·rintro (h | h)
     ·exact .inl h
     ·exact .inr (.inl h)
    ·rintro (h | h | ⟨h, _⟩)
     ·exact .inl h
     ·exact .inr h
     ·exact absurd h hh
  ·rintro E' ⟨g2, g3⟩
   refine Ok.ret ⟨fun e => ?_, by rw [Nat.succ_mul]; omega⟩
   rw [g2, f2, Q6 hs]
   constructor
   ·rintro (⟨s', i, o, a1, a2⟩ | ⟨k, o, _, a1, a2⟩)
    ·exact ⟨s', i, o, List.mem_append_left _ a1, a2⟩
    ·exact ⟨s, k, o, by simp, a1, a2⟩
   ·rintro ⟨s', i, o, a1, a2, a3⟩
    rcases List.mem_append.1 a1 with a1 | a1
    ·exact .inl ⟨s', i, o, a1, a2, a3⟩
    ·simp only [List.mem_singleton] at a1; subst a1
     exact .inr ⟨i, o, (List.getElem?_eq_some_iff.1 a2).1, a2, a3⟩
 ·rintro E ⟨f2, f3⟩
  rw [List.take_length] at f2
  refine Ok.ret fun e => ?_
  rw [f2]
  unfold BE
  constructor
  ·rintro ⟨s, i, o, a1, a2⟩; exact ⟨s, i, o, (hLm s).1 a1, a2⟩
  ·rintro ⟨s, i, o, a1, a2⟩; exact ⟨s, i, o, (hLm s).2 a1, a2⟩
theorem Qjn {t : Task} (ht : SmallT t) : AOK (BA t) (Qd6 t) (JW t.Vars).toNat := by
 have hv1 : ∀ n ∈ t.Vars, 1 ≤ n := fun n hn => (ht.g.v n hn).1
 constructor
 ·rintro v u w ⟨s, i, o, hs, ho, hp, rfl, h1, h2⟩
  have hop := ht.g.op o (List.mem_of_getElem? ho)
  have haok := Qc5 hs (effs := o.Effs) fun e he => (hop.eff e he).2
  have := Qef hv1 hs
  have := Qef hv1 haok
  exact ⟨by omega, by omega, hop.c0, hop.c1⟩
 ·rintro i ⟨s, hs, h1, _⟩
  have := Qef hv1 hs
  omega
theorem Qh6 {t : Task} (ht : SmallT t) : Ok (JY t) (SP (BA t) (Qd6 t) (JW t.Vars).toNat) := by
 classical
 have hA := Qjn ht
 have hI : (Inf : Int) = 1125899906842624 := rfl
 have hp := ht.p
 have hv1 : ∀ n ∈ t.Vars, 1 ≤ n := fun n hn => (ht.g.v n hn).1
 have hpp := QbN hv1
 obtain ⟨E, hE, hEm⟩ := Qof ht
 unfold JY
 rw [Qgh ht.g.v ht.g.nv (by omega)]
 have hL := QbV (vars := t.Vars) fun x hx => by have := ht.g.v x hx; omega
 have hLm : ∀ s, s ∈ QN t.Vars ↔ StateOK t.Vars s := fun s => QaW
 have hLr : ∀ (i : Nat) s, (QN t.Vars)[i]? = some s → rk t.Vars s = (i : Int) := fun i s h => Qnd hv1 h
 have hLg : ∀ s, StateOK t.Vars s → (QN t.Vars)[(rk t.Vars s).toNat]? = some s := fun s h => (Qjj hv1 h).2
 generalize QN t.Vars = L at *
 have hn : (JW t.Vars).toNat = L.length := by omega
 rw [hn] at hA ⊢
 simp only [Option.bind_some]
 refine Ok.step (QbS (by omega) (by omega)) (Ok.bind ?_)
 refine QQ (fun i l => l.length = L.length ∧ ∀ j s, j < i → L[j]? = some s → l[j]? = some (if Ki t.Goal s then 0 else Inf)) ⟨by simp, fun j s hj => by omega⟩ ?_ ?_
 ·rintro i l hi ⟨h1, h2⟩
  obtain ⟨s, hs⟩ := Qt hi
  have hok := (hLm s).1 (List.mem_of_getElem? hs)
  obtain ⟨y, hy⟩ := Qt (xs := l) (i := i) (by omega)
  simp only [Qo, hs, hy, Option.bind_some, QW (show i < l.length by omega), Qjh ht.g.goal hok.len]
  by_cases hg : Ki t.Goal s
  ·simp only [hg, decide_true, if_true]
   rw [List.getElem?_set_self (by omega)]
   simp only [Option.bind_some]
   rw [QW (by simp; omega)]
   refine Ok.ret ⟨by simp [h1], fun j s' hj hs' => ?_⟩
   by_cases e : j = i
   ·subst e
    rw [hs] at hs'; cases hs'
    rw [List.getElem?_set_self (by simp; omega), if_pos hg]
   ·rw [List.getElem?_set_ne (Ne.symm e), List.getElem?_set_ne (Ne.symm e)]
    exact h2 j s' (by omega) hs'
  ·simp only [hg, decide_false, Bool.false_eq_true, if_false, Option.bind_some]
   refine Ok.ret ⟨by simp [h1], fun j s' hj hs' => ?_⟩
   by_cases e : j = i
   ·subst e
    rw [hs] at hs'; cases hs'
    rw [List.getElem?_set_self (by omega), if_neg hg]
   ·rw [List.getElem?_set_ne (Ne.symm e)]
    exact h2 j s' (by omega) hs'
 rintro l0 ⟨hl1, hl2⟩
 have hD0 : Dst (BA t) (Qd6 t) L.length l0 := by
  have get : ∀ (i : Nat) (y : Int), l0[i]? = some y → ∃ s, L[i]? = some s ∧ y = if Ki t.Goal s then 0 else Inf := by
   intro i y hy
   have hi := (List.getElem?_eq_some_iff.1 hy).1
   obtain ⟨s, hs⟩ := Qt (show i < L.length by omega)
   have := hl2 i s (by omega) hs
   rw [hy] at this
   exact ⟨s, hs, Zu this⟩
  refine ⟨hl1, fun i y hy => ?_, fun i hi => ?_, fun i y hy hlt => ?_⟩
  ·obtain ⟨s, hs, rfl⟩ := get i y hy
   split <;> omega
  ·obtain ⟨s, hs, hr, hg⟩ := hi
   have := hLg s hs
   rw [hr, Int.toNat_natCast] at this
   have h := hl2 i s (List.getElem?_eq_some_iff.1 this).1 this
   rw [h, if_pos hg]
  ·obtain ⟨s, hs, rfl⟩ := get i y hy
   by_cases hg : Ki t.Goal s
   ·rw [if_pos hg]
    exact .base ⟨s, (hLm s).1 (List.mem_of_getElem? hs), hLr i s hs, hg⟩
   ·rw [if_neg hg] at hlt; omega
 refine Ok.step hE ?_
 refine Yu (fun s : Bool × List Int => Dst (BA t) (Qd6 t) L.length s.2 ∧ (s.1 = false → ∀ v, Qjf (BA t) s.2 v)) (fun s => Dst (BA t) (Qd6 t) L.length s.2 ∧ ∀ v, Qjf (BA t) s.2 v) (fun _ => False) (fun s => tot s.2 + (if s.1 then 1 else 0)) ⟨hD0, by simp⟩ ?_ (fun _ h => h.elim) ?_
 ·rintro ⟨ch, l⟩ ⟨hD, hcl⟩
  cases ch with
  | false => exact ⟨.brk (false, l), rfl, by simp, fun s' e => by cases e; exact ⟨hD, hcl rfl⟩, by simp⟩
  | true =>
   suffices hpass : Ok (forS (fun i101 => QI fun (changed101 : Bool) (l106 : (List Int)) => (Q9 E (i101 : Int)).bind fun x103 =>
     (Q9 t.Ops x103.Op).bind fun x104 =>
     ((Q9 l106 x103.To).bind fun x105 =>
     if decide (x105 < 1125899906842624) then ((Q9 l106 x103.From).bind fun x106 =>
     some (decide ((IntKind.i64.wrap (x105 + x104.Cost)) < x106)))
     else (some false)).bind (fun (z100 : Bool) => (if z100 then ((Q9 l106 x103.To).bind fun x107 =>
     (Q9 l106 x103.From).bind fun x108 =>
     (JL l106 x103.From (IntKind.i64.wrap (x107 + x104.Cost))).bind fun l107 =>
     some (true, l107))
     else (some (changed101, l106))).bind (QI fun (changed102 : Bool) (l108 : (List Int)) => some (changed102, l108)))) (E.length) 0 (false, l))
     (fun s => Dst (BA t) (Qd6 t) L.length s.2 ∧ (s.1 = true → tot s.2 < tot l) ∧ (s.1 = false → s.2 = l ∧ ∀ v, Qjf (BA t) l v)) by
    obtain ⟨⟨ch', l'⟩, hr, h1, h2, h3⟩ := hpass
    refine ⟨.next (ch', l'), ?_, fun s' e => ?_, by simp, by simp⟩
    ·show ((forS _ _ 0 (false, l)).bind _) = _
     rw [hr]; rfl
    ·cases e
     cases ch' with
     | true => have := h2 rfl; exact ⟨⟨h1, by simp⟩, by simp; omega⟩
     | false =>
      obtain ⟨e, hc⟩ := h3 rfl
      simp only at e
      subst e
      exact ⟨⟨h1, fun _ => hc⟩, by simp⟩
   refine QQ (fun i s => Dst (BA t) (Qd6 t) L.length s.2 ∧ tot s.2 ≤ tot l ∧ (s.1 = true → tot s.2 < tot l) ∧ (s.1 = false → s.2 = l ∧ ∀ e ∈ E.take i, ∀ (v u k : Nat) (o : Op) (a b : Int), e = ⟨(u : Int), (k : Int), (v : Int)⟩ → t.Ops[k]? = some o → l[v]? = some a → l[u]? = some b → a < Inf → b ≤ a + o.Cost)) ?_ ?_ ?_
   ·exact ⟨hD, Nat.le_refl _, by simp, fun _ => ⟨Z, by simp⟩⟩
   ·rintro i ⟨ch, k⟩ hi ⟨h1, h2, h3, h4⟩
    simp only at h1 h2 h3 h4
    obtain ⟨d, hd⟩ := Qt hi
    have hdm := List.mem_of_getElem? hd
    obtain ⟨s, lb, o, hs, ho, hpre, rfl⟩ := (hEm d).1 hdm
    have hop := ht.g.op o (List.mem_of_getElem? ho)
    have haok := Qc5 hs (effs := o.Effs) fun e he => (hop.eff e he).2
    have r1 := Qef hv1 hs
    have r2 := Qef hv1 haok
    obtain ⟨f, hf⟩ : ∃ f : Nat, rk t.Vars s = (f : Int) := ⟨(rk t.Vars s).toNat, by omega⟩
    obtain ⟨g, hg⟩ : ∃ g : Nat, rk t.Vars (JF o.Effs s) = (g : Int) := ⟨(rk t.Vars (JF o.Effs s)).toNat, by omega⟩
    have harc : BA t g f o.Cost := ⟨s, lb, o, hs, ho, hpre, rfl, hg, hf⟩
    rw [hf, hg] at hd
    have hfl : f < L.length := by omega
    have hgl : g < L.length := by omega
    obtain ⟨a, ha⟩ := Qt (xs := k) (i := g) (by rw [h1.len]; exact hgl)
    obtain ⟨b, hb⟩ := Qt (xs := k) (i := f) (by rw [h1.len]; exact hfl)
    have ra := h1.rng g a ha
    have rb := h1.rng f b hb
    have c0 := hop.c0
    have c1 := hop.c1
    have hw : IntKind.i64.wrap (a + o.Cost) = a + o.Cost := QD (by omega) (by omega)
    have hmore : ∀ (hk : ch = false), ¬ (a < Inf ∧ a + o.Cost < b) → k = l ∧ ∀ e ∈ E.take (i + 1), ∀ (v u k : Nat) (o : Op) (a b : Int), e = ⟨(u : Int), (k : Int), (v : Int)⟩ → t.Ops[k]? = some o → l[v]? = some a → l[u]? = some b → a < Inf → b ≤ a + o.Cost := by
     intro hk hnot
     obtain ⟨e1, e2⟩ := h4 hk
     refine ⟨e1, ?_⟩
     intro e he v u kk o' a' b' hee ho' ha' hb' hlt
     rw [Q6 hd] at he
     rcases List.mem_append.1 he with he | he
     ·exact e2 e he v u kk o' a' b' hee ho' ha' hb' hlt
     ·simp only [List.mem_singleton] at he
      subst he
      simp only [base_Edge.mk.injEq] at hee
      have g1 : lb = kk := by omega
      have g2 : g = v := by omega
      have g3 : f = u := by omega
      subst g1 g2 g3
      rw [ho] at ho'; cases ho'
      rw [e1] at ha hb
      rw [ha] at ha'; cases ha'
      rw [hb] at hb'; cases hb'
      omega
    simp only [QI, Qo, hd, ho, ha, hb, Option.bind_some, hw]
    by_cases hlt : a < 1125899906842624
    ·simp only [hlt, decide_true, if_true, Option.bind_some]
     by_cases hl2 : a + o.Cost < b
     ·simp only [hl2, decide_true, if_true, QW (show f < k.length by rw [h1.len]; exact hfl), Option.bind_some]
      have htt := QgV (l := k) (u := f) (y := b) (z := a + o.Cost) hb (by omega) hl2
      refine Ok.ret ⟨h1.set hA harc ha hb hl2, by simp only; omega, fun _ => by simp only; omega, by simp⟩
     ·simp only [hl2, decide_false, Bool.false_eq_true, if_false, Option.bind_some]
      exact Ok.ret ⟨h1, h2, h3, fun hk => hmore hk (fun hx => hl2 hx.2)⟩
    ·simp only [hlt, decide_false, Bool.false_eq_true, if_false, Option.bind_some]
     exact Ok.ret ⟨h1, h2, h3, fun hk => hmore hk (fun hx => hlt hx.1)⟩
   ·rintro ⟨ch, k⟩ ⟨h1, h2, h3, h4⟩
    refine ⟨h1, h3, fun hk => ⟨(h4 hk).1, ?_⟩⟩
    rintro v u w a b ⟨s, i, o, hs, ho, hpre, rfl, e1, e2⟩ hx hy hlt
    have h5 := (h4 hk).2
    rw [List.take_length] at h5
    exact h5 _ ((hEm _).2 ⟨s, i, o, hs, ho, hpre, Z⟩) v u i o a b (by rw [e1, e2]) ho hx hy hlt
 ·rintro ⟨ch, l⟩ ⟨h1, h2⟩
  exact Ok.ret { h1 with cl := h2 }
end Go.Pw
/- -/
set_option maxHeartbeats 4000000
namespace Go.Pw
theorem QnX {n : Nat} {x : System} (h : WS n x) : Ok (YD x) fun l => ∃ S : List Nat, l = Qcj S ∧ S.Nodup ∧ (∀ i ∈ S, i < n) ∧ ∀ i, i ∈ S ↔ Qd5 x i := by
 have hn := h.n1
 unfold YD
 refine Ok.bind (QQ (fun i l => ∃ S : List Nat, l = Qcj S ∧ S.Nodup ∧ (∀ j ∈ S, j < i) ∧ ∀ j, j ∈ S ↔ j < i ∧ x.Goals[j]? = some true) ?_ ?_ ?_)
 ·exact ⟨[], Z, List.Pairwise.nil, by simp, by simp⟩
 ·rintro i l hi ⟨S, rfl, h1, h2, h3⟩
  obtain ⟨g, hg⟩ := Qt hi
  have hgl := h.g
  rw [Qo, hg]
  simp only [Option.bind_some]
  cases g with
  | true =>
   have hSl := nodup_short' h1 h2
   simp only [if_true, JB (show ((Qcj S).length + [(i : Int)].length) * 8 ≤ 140737488355328 by simp [Qcj]; omega), Option.bind_some]
   refine Ok.ret ⟨S ++ [i], by simp [Qcj, QhI], ?_, ?_, fun j => ?_⟩
   ·exact List.nodup_append.2 ⟨h1, by simp, fun a ha b hb e => by simp only [List.mem_singleton] at hb; have := h2 a ha; omega⟩
   ·intro j hj
    rcases List.mem_append.1 hj with hj | hj
    ·have := h2 j hj; omega
    ·simp at hj; omega
   ·rw [List.mem_append, h3, List.mem_singleton]
    constructor
    ·rintro (⟨a, b⟩ | rfl)
     ·exact ⟨by omega, b⟩
     ·exact ⟨by omega, hg⟩
    ·rintro ⟨a, b⟩
     by_cases e : j = i
     ·exact .inr e
     ·exact .inl ⟨by omega, b⟩
  | false =>
   simp only [Bool.false_eq_true, if_false, Option.bind_some]
   refine Ok.ret ⟨S, Z, h1, fun j hj => by have := h2 j hj; omega, fun j => ?_⟩
   rw [h3]
   constructor
   ·rintro ⟨a, b⟩; exact ⟨by omega, b⟩
   ·rintro ⟨a, b⟩
    refine ⟨?_, b⟩
    by_cases e : j = i
    ·subst e; rw [hg] at b; cases b
    ·omega
 ·rintro l ⟨S, rfl, h1, h2, h3⟩
  refine Ok.ret ⟨S, Z, h1, fun i hi => by have := h2 i hi; have := h.g; omega, fun i => ?_⟩
  rw [h3]
  unfold Qd5
  constructor
  ·exact fun h => h.2
  ·exact fun h => ⟨(List.getElem?_eq_some_iff.1 h).1, h⟩
theorem SP.congr {A : QgI} {s t : Nat → Prop} {n : Nat} {l : List Int} (h : SP A s n l) (e : ∀ i, s i ↔ t i) : SP A t n l := by
 have : s = t := funext fun i => propext (e i)
 subst this; exact h
theorem QoR {x : System} (hv : VSys x) : Ok (K8 x) fun r => r.2 = none ∧ SP (Kz x true) (Qd5 x) x.States.toNat r.1 := by
 unfold K8
 simp only [tV, Qdr.2 hv, Option.bind_some, Bool.not_true, Bool.false_eq_true, if_false]
 obtain ⟨l, hl, S, rfl, h1, h2, h3⟩ := QnX hv.ws
 refine Ok.step hl (Ok.bind ((Qk6 hv.ws true h1 h2).mono fun r hr => Ok.ret ⟨Z, hr.congr h3⟩))
end Go.Pw
