/- -/
import Derived.Test.YteiainhbhaodoaaGreatEgV
import Derived.Test.YteiainhbhaodoaaGreatBB
set_option maxHeartbeats 4000000
set_option linter.unusedSimpArgs false
set_option linter.unusedVariables false
namespace Go.Pw
theorem QaH {α : Type} {xs : List α} {i : Int} {y : α} (h0 : 0 ≤ i) (h1 : i < (xs.length : Int)) : QaP xs i y = some (xs.set i.toNat y) := by
 unfold QaP; rw [if_pos ⟨h0, by omega⟩]
theorem K2 {α : Type} {xs : List α} {i : Int} (h0 : 0 ≤ i) (h1 : i < (xs.length : Int)) : ∃ y, Q9 xs i = some y ∧ xs[i.toNat]? = some y := by
 obtain ⟨y, hy⟩ := Qy (xs := xs) (i := i.toNat) (by omega)
 exact ⟨y, by unfold Q9; rw [if_pos h0, hy], hy⟩
theorem QeJ {l : List Int} {n : Int} (h : Asc l n) : ∀ x ∈ l, 0 ≤ x ∧ x < n := fun x hx => by
 obtain ⟨i, hi⟩ := List.mem_iff_getElem?.1 hx
 exact ⟨(h i x hi).1, (h i x hi).2.1⟩
theorem Qfz {g : Ground} (hv : ValidG g) : Ok (Kb g) fun l => ∀ c ∈ l, CondOK (g.Atoms.length : Int) (g.Fluents.length : Int) c := by
 unfold Kb Ke
 rw [Jq (by have := hv.gl; simp only [List.length_nil]; omega)]
 simp only [Option.bind_some, List.nil_append]
 refine Ok.bind (Jg (fun j (l : List Cond) => l.length ≤ 64 + j * 257 ∧ ∀ c ∈ l, CondOK (g.Atoms.length : Int) (g.Fluents.length : Int) c) ⟨by have := hv.gl; omega, hv.goal⟩ ?_ (fun l h => Ok.ret h.2))
 rintro j l hj ⟨hl, hc⟩
 obtain ⟨o, ho⟩ := Qy hj
 have hok := hv.op o (List.mem_of_getElem? ho)
 have := hv.o
 rw [Qq, ho, Option.bind_some, Jq (by simp only [List.length_singleton]; omega), Option.bind_some]
 refine Ok.bind (Jg (fun k (m : List Cond) => m.length ≤ 65 + j * 257 + k ∧ ∀ c ∈ m, CondOK (g.Atoms.length : Int) (g.Fluents.length : Int) c) ⟨by simp only [List.length_append, List.length_singleton]; omega, fun c h => by
  rcases List.mem_append.1 h with q | q
  ·exact hc c q
  ·rw [List.mem_singleton.1 q]; exact hok.pre⟩ ?_ ?_)
 ·rintro k m hk ⟨hm, hd⟩
  obtain ⟨c, hcc⟩ := Qy hk
  have := hok.nc
  rw [Qq, hcc, Option.bind_some, Jq (by simp only [List.length_singleton]; omega), Option.bind_some]
  refine Ok.ret ⟨by simp only [List.length_append, List.length_singleton]; omega, fun x h => ?_⟩
  rcases List.mem_append.1 h with q | q
  ·exact hd x q
  ·rw [List.mem_singleton.1 q]; exact (hok.chg c (List.mem_of_getElem? hcc)).w
 ·rintro m ⟨hm, hd⟩
  have := hok.nc
  exact Ok.ret ⟨by omega, hd⟩
structure GrpOK (n : Nat) (l : List Int) : Prop where
 r : ∀ x ∈ l, 0 ≤ x ∧ x < (n : Int)
 p : l.Pairwise (· < ·)
theorem GrpOK.len {n : Nat} : ∀ {l : List Int}, GrpOK n l → l.length ≤ n := by
 intro l h
 have key : ∀ (l : List Int) (a : Int), (∀ x ∈ l, a ≤ x ∧ x < (n : Int)) → l.Pairwise (· < ·) → a ≤ n → (l.length : Int) ≤ n - a := by
  intro l
  induction l with
  | nil => intro a _ _ h; simp; omega
  | cons x l ih =>
   intro a hr hp ha
   obtain ⟨p1, p2⟩ := List.pairwise_cons.1 hp
   have hx := hr x (List.mem_cons_self ..)
   have := ih (x + 1) (fun y hy => ⟨by have := p1 y hy; omega, (hr y (List.mem_cons_of_mem _ hy)).2⟩) p2 (by omega)
   simp only [List.length_cons]
   omega
 have := key l 0 h.r h.p (by omega)
 omega
theorem Qhq {groups : List (List Int)} {free : List Bool} (hn : free.length ≤ 4096) (h : ∀ l ∈ groups, GrpOK free.length l) :
  Ok (Kn groups free) fun l => GrpOK free.length l ∧ (∀ x ∈ l, free[x.toNat]? = some true) ∧ (groups = [] → l = []) := by
 unfold Kn
 refine Ok.bind (Jg (fun j (l : List Int) => GrpOK free.length l ∧ (∀ x ∈ l, free[x.toNat]? = some true) ∧ (groups = [] → l = [])) ⟨⟨by simp, List.Pairwise.nil⟩, by simp, fun _ => rfl⟩ ?_ (fun l h => Ok.ret h))
 rintro j best hj hb
 obtain ⟨grp, hg⟩ := Qy hj
 have hgo := h grp (List.mem_of_getElem? hg)
 have hgl := hgo.len
 rw [Qq, hg, Option.bind_some]
 refine Ok.bind (Jg (fun k (l : List Int) => l.length ≤ k ∧ l.Sublist (grp.take k) ∧ ∀ x ∈ l, free[x.toNat]? = some true) ⟨by simp, by simp, by simp⟩ ?_ ?_)
 ·rintro k l hk ⟨h0, h1, h2⟩
  obtain ⟨x, hx⟩ := Qy hk
  have hr := hgo.r x (List.mem_of_getElem? hx)
  obtain ⟨b, hb1, hb2⟩ := K2 (xs := free) hr.1 hr.2
  have htk : grp.take (k + 1) = grp.take k ++ [x] := by rw [List.take_add_one, hx]; rfl
  rw [Qq, hx, Option.bind_some, hb1, Option.bind_some]
  refine Ok.bind (Jm (fun q => ?_) (fun _ => Ok.ret (Ok.ret ⟨by omega, by rw [htk]; exact h1.trans (List.sublist_append_left _ _), h2⟩)))
  rw [Jq (by simp only [List.length_singleton]; omega), Option.bind_some]
  refine Ok.ret (Ok.ret ⟨by simp only [List.length_append, List.length_singleton]; omega, by rw [htk]; exact h1.append (List.Sublist.refl _), fun y hy => ?_⟩)
  rcases List.mem_append.1 hy with q1 | q1
  ·exact h2 y q1
  ·rw [List.mem_singleton.1 q1, hb2, q]
 ·rintro l ⟨h0, h1, h2⟩
  rw [List.take_length] at h1
  refine Ok.bind (Jm (fun q => Ok.ret (Ok.ret ⟨⟨fun x hx => hgo.r x (h1.subset hx), hgo.p.sublist h1⟩, h2, fun e => ?_⟩)) (fun _ => Ok.ret (Ok.ret hb)))
  rw [e] at hj
  exact absurd hj (by simp)
end Go.Pw
/- -/
set_option maxHeartbeats 4000000
namespace Go.Pw
def InF (vars : List Int) (f : Fact) : Prop := 0 ≤ f.Var ∧ 0 ≤ f.Val ∧ ∃ d, vars[f.Var.toNat]? = some d ∧ f.Val < d
theorem InF.app {vars : List Int} {f : Fact} (h : InF vars f) (l : List Int) : InF (vars ++ l) f := by
 obtain ⟨h0, h1, d, h2, h3⟩ := h
 exact ⟨h0, h1, d, by rw [List.getElem?_append_left (List.getElem?_eq_some_iff.1 h2).1]; exact h2, h3⟩
theorem InF.new {vars : List Int} {k d : Int} (h0 : 0 ≤ k) (h1 : k < d) : InF (vars ++ [d]) ⟨(vars.length : Int), k⟩ := ⟨by simp, h0, d, by simp, h1⟩
theorem QfG : ∀ {l : List Bool} {i : Nat}, l[i]? = some true → (l.set i false).count true + 1 = l.count true
 | [], i, h => by simp at h
 | b :: l, 0, h => by
  simp only [List.getElem?_cons_zero, Option.some.injEq] at h
  subst h; simp
 | b :: l, i + 1, h => by
  have ih := QfG (l := l) (i := i) (by simpa using h)
  simp only [List.set_cons_succ, List.count_cons]
  omega
structure VarsOK (g : Ground) (atoms : List Fact) (grouped : List Bool) (vars fluents : List Int) : Prop where
 al : atoms.length = g.Atoms.length
 gl : grouped.length = g.Atoms.length
 fact : ∀ f ∈ atoms, InF vars f ∧ 1 ≤ f.Val
 vr : ∀ v ∈ vars, 1 ≤ v ∧ v ≤ 64
 vl : vars.length ≤ 20000
 fl : fluents.length = g.Fluents.length
 fv : ∀ (j : Nat) F v, g.Fluents[j]? = some F → fluents[j]? = some v → 0 ≤ v ∧ vars[v.toNat]? = some (F.Hi - F.Lo + 1)
structure VSt (n : Nat) (vars : List Int) (free : List Bool) (atoms : List Fact) (grouped : List Bool) : Prop where
 f : free.length = n
 a : atoms.length = n
 g : grouped.length = n
 c : vars.length + free.count true ≤ n
 v : ∀ v ∈ vars, 1 ≤ v ∧ v ≤ 64
 k : ∀ (i : Nat) fa, grouped[i]? = some true → atoms[i]? = some fa → InF vars fa ∧ 1 ≤ fa.Val
theorem Qcy {α : Type} {l : List α} {i j : Nat} {y : α} : (l.set i y)[j]? = if i = j then (if j < l.length then some y else none) else l[j]? := by
 rw [List.getElem?_set]
 by_cases h : i = j
 ·subst h; simp
 ·simp [h]
theorem Qje {n : Nat} {vars : List Int} {free : List Bool} {atoms : List Fact} {grouped : List Bool} {c : List Int} (hn : n ≤ 4096) (h : VSt n vars free atoms grouped) (hc : GrpOK n c) (hf : ∀ x ∈ c, free[x.toNat]? = some true) (h2 : 2 ≤ c.length) (h63 : c.length ≤ 63) :
  Ok ((forS (fun i103 => un3 fun (l112 : (List Bool)) (l113 : (List Fact)) (l114 : (List Bool)) => (Q9 c (i103 : Int)).bind fun x105 =>
 (Q9 l113 x105).bind fun x106 =>
 (QaP l113 x105 (⟨(vars.length : Int), IntKind.i64.wrap ((i103 : Int) + 1)⟩ : Fact)).bind fun l115 =>
 (Q9 l114 x105).bind fun x107 =>
 (QaP l114 x105 true).bind fun l116 =>
 (Q9 l112 x105).bind fun x108 =>
 (QaP l112 x105 false).bind fun l117 =>
 some (l117, l115, l116)) (c.length) 0 (free, atoms, grouped)).bind (un3 fun (l112 : (List Bool)) (l113 : (List Fact)) (l114 : (List Bool)) => (app 8 vars [IntKind.i64.wrap ((c.length : Int) + 1)]).bind fun l118 =>
 some (Ctl.next (R := ((List Fact) × (List Bool) × (List Int) × (List Int))) (l118, l112, l113, l114)))) fun r => ∃ v' f' a' g', r = .next (v', f', a', g') ∧ VSt n v' f' a' g' ∧ f'.count true + 2 ≤ free.count true := by
 refine Ok.bind (Jg (fun k (s : List Bool × List Fact × List Bool) => s.1.length = n ∧ s.2.1.length = n ∧ s.2.2.length = n ∧ s.1.count true + k = free.count true ∧ (∀ j x, k ≤ j → c[j]? = some x → s.1[x.toNat]? = some true) ∧
  ∀ (i : Nat) fa, s.2.2[i]? = some true → s.2.1[i]? = some fa → InF (vars ++ [(c.length : Int) + 1]) fa ∧ 1 ≤ fa.Val) ⟨h.f, h.a, h.g, rfl, fun j x _ hx => hf x (List.mem_of_getElem? hx), fun i fa h1 h3 => ⟨(h.k i fa h1 h3).1.app _, (h.k i fa h1 h3).2⟩⟩ ?_ ?_)
 ·rintro k ⟨fr, at', gr⟩ hk ⟨q1, q2, q3, q4, q5, q6⟩
  simp only at q1 q2 q3 q4 q5 q6
  obtain ⟨x, hx⟩ := Qy hk
  obtain ⟨x0, x1⟩ := hc.r x (List.mem_of_getElem? hx)
  have hfx := q5 k x (Nat.le_refl _) hx
  obtain ⟨b1, e1, _⟩ := K2 (xs := at') x0 (by omega)
  obtain ⟨b2, e2, _⟩ := K2 (xs := gr) x0 (by omega)
  obtain ⟨b3, e3, _⟩ := K2 (xs := fr) x0 (by omega)
  simp only [un3]
  rw [Qq, hx, Option.bind_some, e1, Option.bind_some, QaH x0 (by omega), Option.bind_some, e2, Option.bind_some, QaH x0 (by omega), Option.bind_some, e3, Option.bind_some, QaH x0 (by omega), Option.bind_some]
  have hw : IntKind.i64.wrap ((k : Int) + 1) = (k : Int) + 1 := J1 (by omega) (by omega)
  rw [hw]
  refine Ok.ret ⟨by simp [q1], by simp [q2], by simp [q3], ?_, ?_, ?_⟩
  ·have := QfG hfx
   simp only
   omega
  ·intro j y hj hy
   simp only
   rw [Qcy, if_neg, q5 j y (by omega) hy]
   intro e
   have hxy : x < y := by
    have := List.pairwise_iff_getElem.1 hc.p k j (List.getElem?_eq_some_iff.1 hx).1 (List.getElem?_eq_some_iff.1 hy).1 (by omega)
    rw [(List.getElem?_eq_some_iff.1 hx).2, (List.getElem?_eq_some_iff.1 hy).2] at this
    exact this
   omega
  ·intro i fa h1 h3
   simp only at h1 h3
   rw [Qcy] at h1 h3
   by_cases e : x.toNat = i
   ·rw [if_pos e] at h3
    split at h3
    ·cases h3
     refine ⟨InF.new (by omega) (by omega), by simp only; omega⟩
    ·cases h3
   ·rw [if_neg e] at h1 h3
    exact q6 i fa h1 h3
 ·rintro ⟨fr, at', gr⟩ ⟨q1, q2, q3, q4, q5, q6⟩
  simp only at q1 q2 q3 q4 q5 q6
  have hvl := h.c
  simp only [un3]
  rw [Jq (by simp only [List.length_singleton]; omega), Option.bind_some, J1 (by omega) (by omega)]
  refine Ok.ret ⟨_, _, _, _, Z, ⟨q1, q2, q3, by simp only [List.length_append, List.length_singleton]; omega, fun v hv => ?_, q6⟩, by omega⟩
  rcases List.mem_append.1 hv with q | q
  ·exact h.v v q
  ·rw [List.mem_singleton.1 q]; omega
end Go.Pw
/- -/
set_option maxHeartbeats 4000000
namespace Go.Pw
theorem Qge {g : Ground} {groups : List (List Int)} (hv : ValidG g) (hg : ∀ l ∈ groups, GrpOK g.Atoms.length l) :
  Ok (QU ⟨g, [], [], [], []⟩ groups) fun r => VarsOK g r.1 r.2.1 r.2.2.1 r.2.2.2 ∧ (groups = [] → ∀ (i : Nat), i < g.Atoms.length → r.1[i]? = some ⟨(i : Int), 1⟩ ∧ r.2.2.1[i]? = some 2) := by
 have hA := hv.a
 have hF := hv.f
 unfold QU
 dsimp only
 rw [Qh6 (by omega) (by omega), Option.bind_some]
 refine Ok.bind (Jg (fun j (l : List Bool) => l.length = g.Atoms.length) (by simp) ?_ ?_)
 ·rintro j l hj hl
  rw [List.length_replicate] at hj
  obtain ⟨b, e, _⟩ := K2 (xs := l) (i := (j : Int)) (by omega) (by omega)
  rw [e, Option.bind_some, QaH (by omega) (by omega), Option.bind_some]
  exact Ok.ret (by simp [hl])
 rintro l hl
 refine Ok.bind ((Qfz hv).mono fun cs hcs => ?_)
 refine Ok.bind (Jg (fun j (l : List Bool) => l.length = g.Atoms.length) hl ?_ ?_)
 ·rintro j m hj hm
  obtain ⟨c, hc⟩ := Qy hj
  have hco := hcs c (List.mem_of_getElem? hc)
  rw [Qq, hc, Option.bind_some]
  refine Ok.bind (Jg (fun j (l : List Bool) => l.length = g.Atoms.length) hm ?_ (fun l h => Ok.ret h))
  rintro k q hk hq
  obtain ⟨x, hx⟩ := Qy hk
  obtain ⟨x0, x1⟩ := QeJ hco.n x (List.mem_of_getElem? hx)
  obtain ⟨b, e, _⟩ := K2 (xs := q) x0 (by omega)
  rw [Qq, hx, Option.bind_some, e, Option.bind_some, QaH x0 (by omega), Option.bind_some]
  exact Ok.ret (by simp [hq])
 rintro m hm
 rw [Qh6 (by omega) (by omega), Option.bind_some, Qh6 (by omega) (by omega), Option.bind_some]
 have hcm : m.count true ≤ g.Atoms.length := by rw [← hm]; exact List.count_le_length
 refine Qa1 (fun (s : List Int × List Bool × List Fact × List Bool) => VSt g.Atoms.length s.1 s.2.1 s.2.2.1 s.2.2.2 ∧ (groups = [] → s.1 = [] ∧ s.2.2.2 = List.replicate g.Atoms.length false))
  (fun s => VSt g.Atoms.length s.1 s.2.1 s.2.2.1 s.2.2.2 ∧ (groups = [] → s.1 = [] ∧ s.2.2.2 = List.replicate g.Atoms.length false)) (fun _ => False) (fun s => s.2.1.count true)
  ⟨⟨hm, by simp [hm], by simp [hm], by simp; exact hcm, by simp, fun i fa h1 _ => by
   simp only at h1
   rw [List.getElem?_replicate] at h1
   split at h1 <;> simp at h1⟩, fun _ => ⟨rfl, by rw [hm]⟩⟩ ?_ (fun _ h => h.elim) ?_
 ·rintro ⟨vars, free, atoms, grouped⟩ ⟨hs, he⟩
  simp only at hs he
  simp only [un4]
  obtain ⟨best, e, hb1, hb2, hb3⟩ := Qhq (groups := groups) (free := free) (by have := hs.f; omega) (fun l hl => by rw [hs.f]; exact hg l hl)
  rw [hs.f] at hb1
  rw [e, Option.bind_some]
  by_cases c2 : (best.length : Int) < 2
  ·rw [if_pos (decide_eq_true c2)]
   refine ⟨_, Z, (by intro s' h; cases h), (by intro s' h; cases h; exact ⟨hs, he⟩), (by intro r h; cases h)⟩
  rw [if_neg (by simpa using c2)]
  have hmin : min (best.length : Int) 63 = ((min best.length 63 : Nat) : Int) := by omega
  have hcut : cut best 0 (min (best.length : Int) 63) = some (best.take (min best.length 63)) := by
   rw [hmin]; unfold cut; rw [if_pos ⟨by omega, by omega, by omega⟩]; simp
  rw [hcut, Option.bind_some]
  have hsub : (best.take (min best.length 63)).Sublist best := List.take_sublist _ _
  obtain ⟨r, e1, v', f', a', g', rfl, hst, hct⟩ := Qje (c := best.take (min best.length 63)) hA hs ⟨fun x hx => hb1.r x (hsub.subset hx), hb1.p.sublist hsub⟩ (fun x hx => hb2 x (hsub.subset hx)) (by rw [List.length_take]; omega) (by rw [List.length_take]; omega)
  refine ⟨_, e1, (by
   intro s' h
   cases h
   exact ⟨⟨hst, fun q => absurd (hb3 q) (by intro z; rw [z] at c2; simp at c2)⟩, by simp only; omega⟩), (by intro s' h; cases h), (by intro r h; cases h)⟩
 rintro ⟨vars, free, atoms, grouped⟩ ⟨hs, he⟩
 simp only at hs he
 simp only [un4]
 have hvc := hs.c
 refine Ok.bind (Jg (fun j (s : List Int × List Fact) => s.1.length ≤ vars.length + j ∧ s.2.length = g.Atoms.length ∧ (∀ v ∈ s.1, 1 ≤ v ∧ v ≤ 64) ∧
  (∀ (i : Nat) fa, (i < j ∨ grouped[i]? = some true) → s.2[i]? = some fa → InF s.1 fa ∧ 1 ≤ fa.Val) ∧
  (groups = [] → s.1.length = j ∧ ∀ i, i < j → s.2[i]? = some ⟨(i : Int), 1⟩ ∧ s.1[i]? = some 2)) ⟨by simp, hs.a, hs.v, fun i fa q h => hs.k i fa (q.resolve_left (by omega)) h, fun q => ⟨by rw [(he q).1]; rfl, fun i hi => absurd hi (by omega)⟩⟩ ?_ ?_)
 ·rintro j ⟨vs, at'⟩ hj ⟨q1, q2, q3, q4, q5⟩
  simp only at q1 q2 q3 q4 q5
  rw [hs.a] at hj
  obtain ⟨b, hb, hb'⟩ := K2 (xs := grouped) (i := (j : Int)) (by omega) (by have := hs.g; omega)
  rw [Int.toNat_natCast] at hb'
  simp only [QO]
  rw [hb, Option.bind_some]
  by_cases c : b = true
  ·subst c
   rw [if_neg (by simp)]
   simp only [Option.bind_some, QO]
   refine Ok.ret ⟨by simp only; omega, q2, q3, fun i fa q h => ?_, fun q => ?_⟩
   ·by_cases e : i = j
    ·subst e; exact q4 i fa (.inr hb') h
    ·exact q4 i fa (q.imp (by omega) id) h
   ·have := (he q).2
    rw [this, List.getElem?_replicate] at hb'
    split at hb' <;> simp at hb'
  ·have hbf : b = false := by simpa using c
   subst hbf
   obtain ⟨b2, e2, _⟩ := K2 (xs := at') (i := (j : Int)) (by omega) (by omega)
   rw [if_pos (by simp), e2, Option.bind_some, QaH (by omega) (by omega), Option.bind_some, Jq (by simp only [List.length_singleton]; omega), Option.bind_some]
   simp only [Option.bind_some, QO, Int.toNat_natCast]
   refine Ok.ret ⟨by simp only [List.length_append, List.length_singleton]; omega, by simp [q2], fun v hv => ?_, fun i fa q h => ?_, fun q => ?_⟩
   ·rcases List.mem_append.1 hv with z | z
    ·exact q3 v z
    ·rw [List.mem_singleton.1 z]; omega
   ·simp only at h
    rw [Qcy] at h
    by_cases e : j = i
    ·rw [if_pos e, if_pos (by omega)] at h
     cases h
     exact ⟨InF.new (by omega) (by omega), by simp⟩
    ·rw [if_neg e] at h
     have := q4 i fa (q.imp (by omega) id) h
     exact ⟨this.1.app _, this.2⟩
   ·obtain ⟨z1, z2⟩ := q5 q
    refine ⟨by simp [z1], fun i hi => ?_⟩
    simp only
    rw [Qcy]
    by_cases e : j = i
    ·subst e
     rw [if_pos rfl, if_pos (by omega), z1]
     exact ⟨Z, by rw [List.getElem?_append_right (by omega), z1]; simp⟩
    ·rw [if_neg e]
     have := z2 i (by omega)
     exact ⟨this.1, by rw [List.getElem?_append_left (by omega)]; exact this.2⟩
 rintro ⟨vs, at'⟩ ⟨q1, q2, q3, q4, q5⟩
 simp only at q1 q2 q3 q4 q5
 rw [hs.a] at q4 q5 q1
 simp only [QO]
 refine Ok.bind (Jg (fun j (s : List Int × List Int) => s.1.length = vs.length + j ∧ s.2.length = j ∧ (∃ t, s.1 = vs ++ t) ∧ (∀ v ∈ s.1, 1 ≤ v ∧ v ≤ 64) ∧
  (∀ (k : Nat) F v, g.Fluents[k]? = some F → s.2[k]? = some v → 0 ≤ v ∧ s.1[v.toNat]? = some (F.Hi - F.Lo + 1))) ⟨rfl, rfl, ⟨[], by simp⟩, q3, by simp⟩ ?_ ?_)
 ·rintro j ⟨ws, fs⟩ hj ⟨z1, z2, ⟨t, z3⟩, z4, z5⟩
  simp only at z1 z2 z3 z4 z5
  obtain ⟨F, hFj⟩ := Qy hj
  obtain ⟨o1, o2, o3, o4, o5⟩ := hv.flu F (List.mem_of_getElem? hFj)
  simp only [QO]
  rw [Qq, hFj, Option.bind_some, Jq (by simp only [List.length_singleton]; omega), Option.bind_some, Jq (by simp only [List.length_singleton]; omega), Option.bind_some]
  rw [J1 (n := F.Hi - F.Lo) (by omega) (by omega), J1 (by omega) (by omega)]
  refine Ok.ret ⟨by simp only [List.length_append, List.length_singleton]; omega, by simp [z2], ⟨t ++ [F.Hi - F.Lo + 1], by simp only; rw [z3, List.append_assoc]⟩, fun v hv' => ?_, fun k F' v h1 h2 => ?_⟩
  ·rcases List.mem_append.1 hv' with z | z
   ·exact z4 v z
   ·rw [List.mem_singleton.1 z]; omega
  ·simp only at h2
   by_cases e : k < fs.length
   ·rw [List.getElem?_append_left e] at h2
    have := z5 k F' v h1 h2
    exact ⟨this.1, by simp only; rw [List.getElem?_append_left (List.getElem?_eq_some_iff.1 this.2).1]; exact this.2⟩
   ·have hk : k = j := by
     have := (List.getElem?_eq_some_iff.1 h2).1
     simp only [List.length_append, List.length_singleton] at this
     omega
    subst hk
    rw [List.getElem?_append_right (by omega), z2, Nat.sub_self] at h2
    cases h2
    rw [hFj] at h1
    cases h1
    exact ⟨by omega, by simp⟩
 rintro ⟨ws, fs⟩ ⟨z1, z2, ⟨t, z3⟩, z4, z5⟩
 simp only at z1 z2 z3 z4 z5
 simp only [QO]
 refine Ok.ret ⟨⟨q2, hs.g, fun f hf => ?_, z4, by simp only; omega, z2, z5⟩, fun q i hi => ?_⟩
 ·obtain ⟨i, hi⟩ := List.mem_iff_getElem?.1 hf
  have hil := (List.getElem?_eq_some_iff.1 hi).1
  have := q4 i f (.inl (by simp only at hil; omega)) hi
  refine ⟨?_, this.2⟩
  simp only
  rw [z3]
  exact this.1.app t
 ·obtain ⟨y1, y2⟩ := q5 q
  have := y2 i hi
  refine ⟨this.1, ?_⟩
  simp only
  rw [z3, List.getElem?_append_left (by omega)]
  exact this.2
end Go.Pw
/- -/
set_option maxHeartbeats 4000000
namespace Go.Pw
structure MOK (n : Nat) (m : Q0) : Prop where
 nd : (m.map Prod.fst).Nodup
 r : ∀ p ∈ m, 0 ≤ p.1 ∧ p.1 < (n : Int)
theorem QdR : ∀ (m : Q0) (s : Int) (v : Bool), ∀ k, k ∈ (YQ m s v).map Prod.fst ↔ k ∈ m.map Prod.fst ∨ k = s
 | [], s, v, k => by simp [YQ]
 | (a, b) :: m, s, v, k => by
  unfold YQ
  split
  ·rename_i h
   have h : a = s := by simpa using h
   subst h
   simp only [List.map_cons, List.mem_cons]
   constructor
   ·exact .inl
   ·rintro (h | h)
    ·exact h
    ·exact .inl h
  ·have ih := QdR m s v k
   simp only [List.map_cons, List.mem_cons, ih]
   constructor
   ·rintro (h | h | h)
    ·exact .inl (.inl h)
    ·exact .inl (.inr h)
    ·exact .inr h
   ·rintro ((h | h) | h)
    ·exact .inl h
    ·exact .inr (.inl h)
    ·exact .inr (.inr h)
theorem Qfl : ∀ (m : Q0) (s : Int) (v : Bool), (m.map Prod.fst).Nodup → ((YQ m s v).map Prod.fst).Nodup
 | [], s, v, _ => by simp [YQ]
 | (a, b) :: m, s, v, h => by
  simp only [List.map_cons, List.nodup_cons] at h
  unfold YQ
  split
  ·rename_i e
   have e : a = s := by simpa using e
   subst e
   simp only [List.map_cons, List.nodup_cons]
   exact h
  ·rename_i e
   simp only [List.map_cons, List.nodup_cons]
   refine ⟨fun q => ?_, Qfl m s v h.2⟩
   rcases (QdR m s v a).1 q with q | q
   ·exact h.1 q
   ·exact e (by simpa using q)
theorem MOK.put {n : Nat} {m : Q0} {s : Int} {v : Bool} (h : MOK n m) (h0 : 0 ≤ s) (h1 : s < (n : Int)) : MOK n (YQ m s v) :=
 ⟨Qfl m s v h.nd, fun p hp => by
  rcases (QdR m s v p.1).1 (List.mem_map.2 ⟨p, hp, rfl⟩) with q | q
  ·obtain ⟨z, hz, e⟩ := List.mem_map.1 q
   rw [← e]; exact h.r z hz
  ·rw [q]; exact ⟨h0, h1⟩⟩
theorem MOK.del {n : Nat} {m : Q0} {s : Int} (h : MOK n m) : MOK n (QfO m s) :=
 ⟨h.nd.sublist (List.filter_sublist.map _), fun p hp => h.r p (List.mem_filter.1 hp).1⟩
def srt (l : List Int) : List Int := l.mergeSort fun x y => decide (x ≤ y)
theorem QfP (l : List Int) : (srt l).Pairwise (· ≤ ·) := by
 have h := List.pairwise_mergeSort (le := fun x y : Int => decide (x ≤ y)) (fun a b c h1 h2 => by simp only [decide_eq_true_eq] at *; omega) (fun a b => by simp only [Bool.or_eq_true, decide_eq_true_eq]; omega) l
 exact h.imp fun {a b} h => by simpa using h
theorem Qa0 (l : List Int) : (srt l).Perm l := List.mergeSort_perm _ _
theorem Qja {a b : List Int} (h : a.Perm b) : srt a = srt b :=
 List.Perm.eq_of_pairwise (le := fun x y : Int => x ≤ y) (fun x y _ _ h1 h2 => Int.le_antisymm h1 h2) (QfP a) (QfP b) ((Qa0 a).trans (h.trans (Qa0 b).symm))
theorem MOK.grp {n : Nat} {m : Q0} (h : MOK n m) : GrpOK n (srt (m.map Prod.fst)) := by
 have hm : ∀ x, x ∈ srt (m.map Prod.fst) ↔ x ∈ m.map Prod.fst := fun x => (Qa0 _).mem_iff
 refine ⟨fun x hx => ?_, ?_⟩
 ·obtain ⟨p, hp, e⟩ := List.mem_map.1 ((hm x).1 hx)
  rw [← e]; exact h.r p hp
 ·have h1 := QfP (m.map Prod.fst)
  have h2 : (srt (m.map Prod.fst)).Pairwise (· ≠ ·) := (Qa0 _).nodup_iff.2 h.nd
  exact (h1.and h2).imp fun {a b} ⟨x, y⟩ => by omega
theorem MOK.len {n : Nat} {m : Q0} (h : MOK n m) : m.length ≤ n := by
 have := h.grp.len
 rw [(Qa0 _).length_eq, List.length_map] at this
 exact this
theorem MOK.nil (n : Nat) : MOK n [] := ⟨by simp, by simp⟩
theorem QjM {n : Nat} {m : Q0} {s : Int} (hn : n ≤ 4096) (h : MOK n m) (h0 : 0 ≤ s) (h1 : s < (n : Int)) : JN m s true = some (YQ m s true) := by
 unfold JN
 rw [if_pos ⟨⟨by omega, by omega⟩, by have := h.len; simp only [maxLen]; omega⟩]
theorem YW {n : Nat} (hn : n ≤ 4096) : ∀ (fu : Nat) (e : GExpr) (m : Q0), RE (n : Int) e → SizeOf.sizeOf e ≤ fu → MOK n m → Ok (Q7 fu e m) (MOK n)
 | 0, e, m, _, hs, _ => by cases e; simp at hs
 | fu + 1, e, m, hr, hs, hm => by
  unfold Q7
  cases hr with
  | num h0 h1 =>
   rw [if_neg (show ¬ decide (QiB = (⟨#[102, 108, 117, 101, 110, 116]⟩ : ByteArray)) = true by decide)]
   exact Ok.ret hm
  | flu h0 h1 =>
   rw [if_pos (show decide (QhY = (⟨#[102, 108, 117, 101, 110, 116]⟩ : ByteArray)) = true by decide), QjM hn hm h0 h1]
   exact Ok.ret (hm.put h0 h1)
  | @bin op a b ho ha hb =>
   have hne : ¬ decide (op = (⟨#[102, 108, 117, 101, 110, 116]⟩ : ByteArray)) = true := by
    rcases ho with rfl | rfl | rfl <;> decide
   have hk1 := QaS (e := ⟨op, 0, [a, b]⟩) (k := a) (by simp)
   have hk2 := QaS (e := ⟨op, 0, [a, b]⟩) (k := b) (by simp)
   rw [if_neg hne, Option.bind_some]
   refine Ok.bind (Jg (fun _ m => MOK n m) hm ?_ (fun _ h => Ok.ret h))
   rintro j q hj hq
   have hj2 : j = 0 ∨ j = 1 := by simp only [List.length_cons, List.length_nil] at hj; omega
   rcases hj2 with rfl | rfl
   ·rw [show Q9 [a, b] ((0 : Nat) : Int) = some a from rfl, Option.bind_some]
    exact Ok.bind ((YW hn fu a q ha (by omega) hq).mono fun _ h => Ok.ret h)
   ·rw [show Q9 [a, b] ((1 : Nat) : Int) = some b from rfl, Option.bind_some]
    exact Ok.bind ((YW hn fu b q hb (by omega) hq).mono fun _ h => Ok.ret h)
theorem Qg3 : ∀ (ord pre : List Int), (pre.length + ord.length) * 8 ≤ 140737488355328 →
  Qbl (R := (List Int)) (fun x100 => fun (out100 : (List Int)) => (app 8 out100 [x100]).bind fun l100 => some (Ctl.next l100)) ord pre = some (.next (pre ++ ord))
 | [], pre, _ => by simp [Qbl]
 | x :: ord, pre, h => by
  simp only [List.length_cons] at h
  unfold Qbl
  rw [Jq (by simp only [List.length_singleton]; omega)]
  simp only [Option.bind_some]
  rw [Qg3 ord (pre ++ [x]) (by simp only [List.length_append, List.length_singleton]; omega), List.append_assoc]
  rfl
theorem QbB {n : Nat} {m : Q0} (hn : n ≤ 4096) (h : MOK n m) : JK m = some (srt (m.map Prod.fst)) := by
 unfold JK
 have hl := h.len
 refine Qc2 h.nd fun ord hp => ?_
 have ho : ord.length = m.length := by rw [hp.length_eq, List.length_map]
 rw [Qg3 ord [] (by simp only [List.length_nil]; omega)]
 unfold ctl
 simp only [Option.bind_some, List.nil_append]
 unfold QaV
 rw [if_pos (by omega)]
 simp only [Option.bind_some]
 exact congrArg some (Qja hp)
section
variable {n fu : Nat} (hn : n ≤ 4096)
include hn
theorem QiI {l : List GTest} {m : Q0} (ht : ∀ t ∈ l, QbQ (n : Int) t) (hs : ∀ t ∈ l, SizeOf.sizeOf t.A ≤ fu ∧ SizeOf.sizeOf t.B ≤ fu) (hm : MOK n m) {Q : Q0 → Prop} {k : Q0 → Option (List Int)} {P : List Int → Prop} (hk : ∀ q, MOK n q → Ok (k q) P) :
  Ok ((forS (fun i100 => fun (l101 : Q0) => (Q9 l (i100 : Int)).bind fun x100 =>
 (Q7 fu x100.A l101).bind <| fun (l102 : Q0) =>
 (Q7 fu x100.B l102).bind <| fun (l103 : Q0) =>
 some l103) (l.length) 0 m).bind k) P := by
 refine Ok.bind (Jg (fun _ m => MOK n m) hm ?_ hk)
 rintro j q hj hq
 obtain ⟨t, h⟩ := Qy hj
 have hmem := List.mem_of_getElem? h
 rw [Qq, h, Option.bind_some]
 exact Ok.bind ((YW hn fu _ q (ht t hmem).2.1 (hs t hmem).1 hq).mono fun q2 h2 => Ok.bind ((YW hn fu _ q2 (ht t hmem).2.2 (hs t hmem).2 h2).mono fun q3 h3 => Ok.ret h3))
theorem Yz {l : List GTest} {without : List Int} (ht : ∀ t ∈ l, QbQ (n : Int) t) (hs : ∀ t ∈ l, SizeOf.sizeOf t.A ≤ fu ∧ SizeOf.sizeOf t.B ≤ fu) (hw : ∀ x ∈ without, 0 ≤ x ∧ x < (n : Int)) : Ok (QE fu l without) (GrpOK n) := by
 unfold QE
 refine QiI hn ht hs (MOK.nil n) (Q := fun _ => True) fun q hq => ?_
 refine Ok.bind (Jg (fun _ m => MOK n m) hq ?_ ?_)
 ·rintro j m hj hm
  obtain ⟨x, h⟩ := Qy hj
  obtain ⟨x0, x1⟩ := hw x (List.mem_of_getElem? h)
  rw [Qq, h, Option.bind_some]
  unfold QeB
  rw [if_pos ⟨⟨by omega, by omega⟩, hm.nd⟩]
  exact Ok.ret hm.del
 ·intro m hm
  rw [QbB hn hm]
  exact Ok.ret hm.grp
theorem Qcm {o : GOp} {na : Int} (ho : GOpOK na (n : Int) o) (hs : SizeOf.sizeOf o ≤ fu) (ht : ∀ t ∈ o.Pre.Tests, SizeOf.sizeOf t.A ≤ fu ∧ SizeOf.sizeOf t.B ≤ fu) (ha : ∀ a ∈ o.Assigns, SizeOf.sizeOf a.Value ≤ fu) : Ok (J8 fu o) (GrpOK n) := by
 unfold J8
 refine QiI hn ho.pre.t ht (MOK.nil n) (Q := fun _ => True) fun q hq => ?_
 refine Ok.bind (Jg (fun _ m => MOK n m) hq ?_ ?_)
 ·rintro j m hj hm
  obtain ⟨a, h⟩ := Qy hj
  have hmem := List.mem_of_getElem? h
  rw [Qq, h, Option.bind_some]
  exact Ok.bind ((YW hn fu _ m (ho.asg j a h).2.2.2 (ha a hmem) hm).mono fun _ h => Ok.ret h)
 ·intro m hm
  rw [QbB hn hm]
  exact Ok.ret hm.grp
end
end Go.Pw
/- -/
set_option maxHeartbeats 4000000
namespace Go.Pw
def dom (g : Ground) (i : Int) : Nat := match g.Fluents[i.toNat]? with | some f => (f.Hi - f.Lo + 1).toNat | none => 0
def KX (g : Ground) (l : List Int) : Nat := l.foldl (fun a x => a * dom g x) 1
theorem QbT (g : Ground) (l : List Int) (x : Int) : KX g (l ++ [x]) = KX g l * dom g x := by simp [KX]
structure ValsOK (g : Ground) (v : List Int) : Prop where
 l : v.length = g.Fluents.length
 r : ∀ (j : Nat) F x, g.Fluents[j]? = some F → v[j]? = some x → F.Lo ≤ x ∧ x ≤ F.Hi
structure XOK (g : Ground) (x : encode_encoder) : Prop where
 e : x.g = g
 v : VarsOK g x.atoms x.grouped x.vars x.fluents
section
variable {g : Ground} (hv : ValidG g)
include hv
theorem QeH {i : Int} (h0 : 0 ≤ i) (h1 : i < (g.Fluents.length : Int)) : ∃ F, Q9 g.Fluents i = some F ∧ g.Fluents[i.toNat]? = some F ∧ Qec F ∧ dom g i = (F.Hi - F.Lo + 1).toNat := by
 obtain ⟨F, e1, e2⟩ := K2 (xs := g.Fluents) h0 h1
 exact ⟨F, e1, e2, hv.flu F (List.mem_of_getElem? e2), by unfold dom; rw [e2]⟩
theorem Qhh {i : Int} (h0 : 0 ≤ i) (h1 : i < (g.Fluents.length : Int)) : 1 ≤ dom g i ∧ dom g i ≤ 64 := by
 obtain ⟨F, _, _, ⟨o1, o2, o3, o4, o5⟩, e⟩ := QeH hv h0 h1
 rw [e]; omega
theorem Qip {l : List Int} (h : GrpOK g.Fluents.length l) : ∀ j, 1 ≤ KX g (l.take j) := by
 intro j
 induction j with
 | zero => simp [KX]
 | succ j ih =>
  by_cases hj : j < l.length
  ·rw [List.take_add_one, List.getElem?_eq_getElem hj, Option.toList_some, QbT]
   have := h.r l[j] (List.getElem_mem hj)
   have := (Qhh hv this.1 this.2).1
   exact Nat.one_le_iff_ne_zero.2 (Nat.mul_ne_zero (by omega) (by omega))
  ·have e1 : l.take (j + 1) = l := List.take_of_length_le (by omega)
   have e2 : l.take j = l := List.take_of_length_le (by omega)
   rw [e1]; rw [e2] at ih; exact ih
theorem Qjg {l : List Int} (h : GrpOK g.Fluents.length l) : ∀ d j, j + d = l.length → KX g (l.take j) ≤ KX g l := by
 intro d
 induction d with
 | zero => intro j hj; rw [List.take_of_length_le (by omega)]; exact Nat.le_refl _
 | succ d ih =>
  intro j hj
  have hlt : j < l.length := by omega
  have h1 := ih (j + 1) (by omega)
  rw [List.take_add_one, List.getElem?_eq_getElem hlt, Option.toList_some, QbT] at h1
  have := h.r l[j] (List.getElem_mem hlt)
  have := (Qhh hv this.1 this.2).1
  exact Nat.le_trans (Nat.le_mul_of_pos_right _ (by omega)) h1
theorem QfX {x : encode_encoder} {l : List Int} (hx : x.g = g) (h : GrpOK g.Fluents.length l) : Jv x l = some (min (KX g l : Int) 257) := by
 apply Ok.eq
 unfold Jv
 rw [hx]
 refine Ok.bind (Jg (fun j (n : Int) => n = min (KX g (l.take j) : Int) 257) (by show (1 : Int) = min ((1 : Nat) : Int) 257; decide) ?_ ?_)
 ·rintro j n hj rfl
  obtain ⟨i, hi⟩ := Qy hj
  obtain ⟨i0, i1⟩ := h.r i (List.mem_of_getElem? hi)
  obtain ⟨F, e1, _, ⟨o1, o2, o3, o4, o5⟩, ed⟩ := QeH hv i0 i1
  rw [Qq, hi, Option.bind_some, e1, Option.bind_some, J1 (n := F.Hi - F.Lo) (by omega) (by omega), J1 (n := F.Hi - F.Lo + 1) (by omega) (by omega)]
  have hd : F.Hi - F.Lo + 1 = (dom g i : Int) := by rw [ed]; omega
  have hb := Qhh hv i0 i1
  rw [hd]
  have ht : l.take (j + 1) = l.take j ++ [i] := by rw [List.take_add_one, hi]; rfl
  have hp := Qip hv h j
  rw [ht, QbT]
  generalize KX g (l.take j) = p at *
  generalize dom g i = d at *
  have hmul : min (p : Int) 257 * (d : Int) ≤ 257 * 64 := by
   have : min (p : Int) 257 * (d : Int) ≤ 257 * (d : Int) := Int.mul_le_mul_of_nonneg_right (by omega) (by omega)
   omega
  have hmul0 : 0 ≤ min (p : Int) 257 * (d : Int) := Int.mul_nonneg (by omega) (by omega)
  rw [J1 (by omega) (by omega)]
  refine Ok.ret ?_
  rw [Int.natCast_mul]
  by_cases c : (p : Int) ≤ 257
  ·have e : min (p : Int) 257 = p := by omega
   rw [e]
  ·have e : min (p : Int) 257 = 257 := by omega
   rw [e]
   have h1 : (257 : Int) ≤ 257 * (d : Int) := by omega
   have h2 : (257 : Int) ≤ (p : Int) * (d : Int) := by
    have : (257 : Int) * (d : Int) ≤ (p : Int) * (d : Int) := Int.mul_le_mul_of_nonneg_right (by omega) (by omega)
    omega
   omega
 ·rintro n rfl
  rw [List.take_length]
  exact Ok.ret Z
omit hv in
theorem ValsOK.set {v : List Int} (h : ValsOK g v) {i : Int} {y : Int} {F : GFluent} (hF : g.Fluents[i.toNat]? = some F) (h0 : F.Lo ≤ y) (h1 : y ≤ F.Hi) : ValsOK g (v.set i.toNat y) := by
 refine ⟨by rw [List.length_set]; exact h.l, fun j F' x hj hx => ?_⟩
 rw [Qcy] at hx
 by_cases e : i.toNat = j
 ·rw [if_pos e] at hx
  split at hx
  ·cases hx
   rw [← e, hF] at hj
   cases hj
   exact ⟨h0, h1⟩
  ·cases hx
 ·rw [if_neg e] at hx
  exact h.r j F' x hj hx
theorem Qcs {x : encode_encoder} {l base : List Int} (hx : x.g = g) (h : GrpOK g.Fluents.length l) (hp : KX g l ≤ 256) (hb : ValsOK g base) :
  Ok (QN x l base) fun out => out.length ≤ 256 ∧ ∀ v ∈ out, ValsOK g v := by
 have hF := hv.f
 unfold QN
 rw [hx]
 refine Ok.bind (Jg (fun j (out : List (List Int)) => out.length = KX g (l.take j) ∧ ∀ v ∈ out, ValsOK g v) ⟨by simp [KX], by simpa using hb⟩ ?_ ?_)
 ·rintro j out hj ⟨q1, q2⟩
  obtain ⟨i, hi⟩ := Qy hj
  obtain ⟨i0, i1⟩ := h.r i (List.mem_of_getElem? hi)
  obtain ⟨F, e1, e2, ⟨o1, o2, o3, o4, o5⟩, ed⟩ := QeH hv i0 i1
  have hle := Qjg hv h (l.length - j) j (by omega)
  have ht : l.take (j + 1) = l.take j ++ [i] := by rw [List.take_add_one, hi]; rfl
  rw [Qq, hi, Option.bind_some]
  refine Ok.bind (Jg (fun k (next : List (List Int)) => next.length = k * dom g i ∧ ∀ v ∈ next, ValsOK g v) ⟨by simp, by simp⟩ ?_ ?_)
  ·rintro k next hk ⟨z1, z2⟩
   obtain ⟨v, hvk⟩ := Qy hk
   have hvv := q2 v (List.mem_of_getElem? hvk)
   rw [Qq, hvk, Option.bind_some, e1, Option.bind_some]
   have hk64 : k * dom g i ≤ 256 * 64 := Nat.mul_le_mul (by omega) (by rw [ed]; omega)
   refine Qa1 (fun (s : Int × List (List Int)) => F.Lo ≤ s.1 ∧ s.1 ≤ F.Hi + 1 ∧ (s.2.length : Int) = (k * dom g i : Nat) + (s.1 - F.Lo) ∧ ∀ v ∈ s.2, ValsOK g v)
    (fun s => (s.2.length : Int) = (k * dom g i : Nat) + (F.Hi + 1 - F.Lo) ∧ ∀ v ∈ s.2, ValsOK g v) (fun _ => False) (fun s => (F.Hi + 1 - s.1).toNat) ⟨Int.le_refl _, by simp only; omega, by simp only; omega, z2⟩ ?_ (fun _ h => h.elim) ?_
   ·rintro ⟨n, nx⟩ ⟨y1, y2, y3, y4⟩
    simp only at y1 y2 y3 y4
    simp only [QO]
    by_cases c : n ≤ F.Hi
    ·rw [if_pos (decide_eq_true c)]
     unfold KV
     have hl := hvv.l
     rw [Jq (by simp only [List.length_nil]; omega)]
     simp only [Option.bind_some, List.nil_append]
     obtain ⟨b, e3, _⟩ := K2 (xs := v) i0 (by omega)
     rw [e3, Option.bind_some, QaH i0 (by omega), Option.bind_some, Jq (by simp only [List.length_singleton]; omega), Option.bind_some, J1 (by omega) (by omega)]
     refine ⟨_, Z, (by
      intro s' hh
      cases hh
      refine ⟨⟨by simp only; omega, by simp only; omega, by simp only [List.length_append, List.length_singleton]; omega, fun w hw => ?_⟩, by simp only; omega⟩
      rcases List.mem_append.1 hw with q | q
      ·exact y4 w q
      ·rw [List.mem_singleton.1 q]; exact ValsOK.set hvv e2 y1 c), (by intro s' hh; cases hh), (by intro r hh; cases hh)⟩
    ·rw [if_neg (by simpa using c)]
     refine ⟨_, Z, (by intro s' hh; cases hh), (by
      intro s' hh
      cases hh
      exact ⟨by simp only; omega, y4⟩), (by intro r hh; cases hh)⟩
   ·rintro ⟨n, nx⟩ ⟨y1, y2⟩
    simp only [QO]
    refine Ok.ret ⟨?_, y2⟩
    simp only at y1
    have : (dom g i : Int) = F.Hi + 1 - F.Lo := by rw [ed]; omega
    rw [Nat.succ_mul]
    omega
  ·rintro next ⟨z1, z2⟩
   exact Ok.ret ⟨by rw [z1, q1, ht, QbT], z2⟩
 ·rintro out ⟨q1, q2⟩
  rw [List.take_length] at q1
  exact Ok.ret ⟨by omega, q2⟩
end
end Go.Pw
/- -/
set_option maxHeartbeats 4000000
namespace Go.Pw
def QbR (n : Int) : Prop := -1099511627776 ≤ n ∧ n ≤ 1099511627776
theorem QgP {op : ByteArray} {a b : Int} (ha : QbR a) (hb : QbR b) : Ok (KC op a b) fun r => r.2 = true → QbR r.1 := by
 unfold QbR at ha hb
 unfold KC
 have fin : ∀ n : Int, Ok ((if decide ((-1099511627776) ≤ n) = true then (some (decide (n ≤ 1099511627776))) else (some false)).bind (fun (z100 : Bool) => some (n, z100))) fun r => r.2 = true → QbR r.1 := by
  intro n
  by_cases c : -1099511627776 ≤ n
  ·rw [if_pos (decide_eq_true c)]
   refine Ok.ret fun h => ⟨c, ?_⟩
   simpa using h
  ·rw [if_neg (by simpa using c)]
   exact Ok.ret fun h => by simp at h
 refine Jm (fun _ => fin _) fun _ => Jm (fun _ => fin _) fun _ => ?_
 by_cases c : a = 0
 ·rw [if_neg (by simp [c]), Option.bind_some, if_neg (by simp)]
  exact fin _
 ·rw [if_pos (by simp [c]), J1 (n := 0 - a) (by omega) (by omega)]
  refine Ok.bind (Ok.must (by rw [Bool.not_eq_true', decide_eq_false_iff_not]; omega) ?_)
  refine Ok.ret ?_
  exact Jm (fun _ => Ok.ret fun h => by simp at h) fun _ => fin _
section
variable {g : Ground} {vals : List Int} (hvl : ValsOK g vals) (hv : ValidG g)
include hvl hv
theorem Qie {i : Int} (h0 : 0 ≤ i) (h1 : i < (g.Fluents.length : Int)) : ∃ y, Q9 vals i = some y ∧ QbR y := by
 obtain ⟨y, e1, e2⟩ := K2 (xs := vals) h0 (by rw [hvl.l]; exact h1)
 obtain ⟨F, _, e3, ⟨o1, o2, o3, o4, o5⟩, _⟩ := QeH hv h0 h1
 have := hvl.r i.toNat F y e3 e2
 exact ⟨y, e1, by unfold QbR; omega⟩
theorem QdM : ∀ (fu : Nat) (e : GExpr), RE (g.Fluents.length : Int) e → SizeOf.sizeOf e ≤ fu → Ok (Jr fu ⟨[], vals⟩ e) fun r => r.2 = true → QbR r.1
 | 0, e, _, hs => by cases e; simp at hs
 | fu + 1, e, hr, hs => by
  unfold Jr
  cases hr with
  | num h0 h1 =>
   rw [if_pos (show decide (QiB = (⟨#[110, 117, 109, 98, 101, 114]⟩ : ByteArray)) = true by decide)]
   exact Ok.ret fun _ => ⟨h0, h1⟩
  | flu h0 h1 =>
   rw [if_neg (show ¬ decide (QhY = (⟨#[110, 117, 109, 98, 101, 114]⟩ : ByteArray)) = true by decide), if_pos (show decide (QhY = (⟨#[102, 108, 117, 101, 110, 116]⟩ : ByteArray)) = true by decide)]
   obtain ⟨y, e1, hy⟩ := Qie hvl hv h0 h1
   dsimp only
   rw [e1, Option.bind_some]
   exact Ok.ret fun _ => hy
  | @bin op a b ho ha hb =>
   have hne1 : ¬ decide (op = (⟨#[110, 117, 109, 98, 101, 114]⟩ : ByteArray)) = true := by
    rcases ho with rfl | rfl | rfl <;> decide
   have hne : ¬ decide (op = (⟨#[102, 108, 117, 101, 110, 116]⟩ : ByteArray)) = true := by
    rcases ho with rfl | rfl | rfl <;> decide
   have hk1 := QaS (e := ⟨op, 0, [a, b]⟩) (k := a) (by simp)
   have hk2 := QaS (e := ⟨op, 0, [a, b]⟩) (k := b) (by simp)
   rw [if_neg hne1, if_neg hne, show Q9 [a, b] 0 = some a from rfl, Option.bind_some]
   refine Ok.bind ((QdM fu a ha (by omega)).mono ?_)
   rintro ⟨y, yb⟩ hy
   simp only [QO]
   refine Jm (fun _ => Ok.ret fun h => by simp at h) fun c1 => ?_
   rw [show Q9 [a, b] 1 = some b from rfl, Option.bind_some]
   refine Ok.bind ((QdM fu b hb (by omega)).mono ?_)
   rintro ⟨z, zb⟩ hz
   simp only [QO]
   refine Jm (fun _ => Ok.ret fun h => by simp at h) fun c2 => ?_
   refine Ok.bind ((QgP (hy (by simpa using c1)) (hz (by simpa using c2))).mono ?_)
   rintro ⟨r, rb⟩ hr
   exact Ok.ret hr
omit hv in
theorem Qhn : Ok (JZ (⟨[], g.Fluents, [], [], []⟩ : Ground) ⟨[], vals⟩) fun _ => True := by
 unfold JZ
 dsimp only
 rw [if_neg (by simp [hvl.l])]
 have hi : Ok (J2 [] ((([] : List Atom).length : Nat) : Int)) fun _ => True := ⟨true, by with_unfolding_all rfl, trivial⟩
 refine Ok.bind (Ok.bind (hi.mono fun b _ => Ok.ret ?_))
 refine Jm (fun _ => Ok.ret trivial) fun _ => ?_
 refine Ok.ctl (fun _ (_ : Unit) => True) (fun _ => True) trivial ?_ (fun _ _ => Ok.ret trivial) (fun _ _ => Ok.ret trivial)
 rintro j _ hj _
 obtain ⟨y, hy⟩ := Qy hj
 obtain ⟨F, hF⟩ := Qy (xs := g.Fluents) (i := j) (by rw [← hvl.l]; exact hj)
 rw [Qq, hy, Option.bind_some, Qq, hF, Option.bind_some]
 refine Ok.bind (Jm (fun _ => Ok.ret ?_) (fun _ => Ok.ret ?_))
 ·exact Ok.ret trivial
 ·exact Jm (fun _ => Ok.ret trivial) (fun _ => Ok.ret trivial)
open Classical in
theorem Qda {x : encode_encoder} {fu : Nat} {e : GExpr} (hx : x.g = g) (he : RE (g.Fluents.length : Int) e) (hs : SizeOf.sizeOf e < fu) (hf : SizeOf.sizeOf (⟨[], g.Fluents, [], [], []⟩ : Ground) ≤ fu) :
  Ok (QA fu x e vals) fun r => r.2 = true → QbR r.1 := by
 have hF := hv.f
 unfold QA Qab
 rw [hx, Y9 (g := ⟨[], g.Fluents, [], [], []⟩) ⟨by simp, by simp only; omega, by simp, by simp, by simp, by simp, by simp⟩ hf, Option.bind_some]
 have key : Ok (if (!decide (ValidG (⟨[], g.Fluents, [], [], []⟩ : Ground))) = true then (some true)
   else ((JZ (⟨[], g.Fluents, [], [], []⟩ : Ground) ⟨[], vals⟩).bind fun (y101 : Bool) =>
   if (!y101) = true then (some true)
   else ((Q8 fu e (g.Fluents.length : Int)).bind fun (y102 : Bool) => some (!y102)))) fun _ => True := by
  refine Jm (fun _ => Ok.ret trivial) fun _ => Ok.bind ((Qhn hvl).mono fun b _ => Jm (fun _ => Ok.ret trivial) fun _ => ?_)
  rw [Qb7 fu e _ hs]
  exact Ok.ret trivial
 refine Ok.bind (Ok.bind (key.mono fun b _ => ?_))
 refine Jm (fun _ => Ok.ret (Ok.ret fun h => by simp at h)) fun _ => ?_
 refine Ok.bind ((QdM hvl hv fu e he (by omega)).mono ?_)
 rintro ⟨y, yb⟩ hy
 simp only [QO]
 refine Jm (fun _ => Ok.ret (Ok.ret fun h => by simp at h)) fun c => Ok.ret (Ok.ret fun _ => hy (by simpa using c))
theorem Qgz {x : encode_encoder} {fu : Nat} {l : List GTest} (hx : x.g = g) (ht : ∀ t ∈ l, QbQ (g.Fluents.length : Int) t) (hs : ∀ t ∈ l, SizeOf.sizeOf t.A < fu ∧ SizeOf.sizeOf t.B < fu) (hf : SizeOf.sizeOf (⟨[], g.Fluents, [], [], []⟩ : Ground) ≤ fu) :
  Ok (Jw fu x l vals) fun _ => True := by
 unfold Jw
 refine Ok.ctl (fun _ (_ : Unit) => True) (fun _ => True) trivial ?_ (fun _ _ => Ok.ret trivial) (fun _ _ => Ok.ret trivial)
 rintro j _ hj _
 obtain ⟨t, h⟩ := Qy hj
 have hm := List.mem_of_getElem? h
 rw [Qq, h, Option.bind_some]
 refine Ok.bind ((Qda hvl hv hx (ht t hm).2.1 (hs t hm).1 hf).mono ?_)
 rintro ⟨y, yb⟩ _
 simp only [QO]
 refine Ok.bind ((Qda hvl hv hx (ht t hm).2.2 (hs t hm).2 hf).mono ?_)
 rintro ⟨z, zb⟩ _
 simp only [QO]
 exact Jm (fun _ => Ok.ret trivial) (fun _ => Ok.ret trivial)
theorem QgI {x : encode_encoder} {fu : Nat} {o : GOp} (hx : x.g = g) (ho : GOpOK (g.Atoms.length : Int) (g.Fluents.length : Int) o) (hs : ∀ t ∈ o.Pre.Tests, SizeOf.sizeOf t.A < fu ∧ SizeOf.sizeOf t.B < fu) (ha : ∀ a ∈ o.Assigns, SizeOf.sizeOf a.Value < fu) (hf : SizeOf.sizeOf (⟨[], g.Fluents, [], [], []⟩ : Ground) ≤ fu) :
  Ok (J3 fu x o vals) fun b => b = true → ∀ (j : Nat) a, o.Assigns[j]? = some a → ∃ y F, QA fu x a.Value vals = some (y, true) ∧ g.Fluents[a.Fluent.toNat]? = some F ∧ F.Lo ≤ y ∧ y ≤ F.Hi := by
 unfold J3
 refine Ok.bind ((Qgz hvl hv hx ho.pre.t hs hf).mono fun b _ => ?_)
 refine Jm (fun _ => Ok.ret fun h => by simp at h) fun _ => ?_
 refine Ok.ctl (fun j (_ : Unit) => ∀ (k : Nat) a, k < j → o.Assigns[k]? = some a → ∃ y F, QA fu x a.Value vals = some (y, true) ∧ g.Fluents[a.Fluent.toNat]? = some F ∧ F.Lo ≤ y ∧ y ≤ F.Hi)
  (fun r => r = false) (fun k a h => absurd h (Nat.not_lt_zero k)) ?_ (fun r h => by subst h; exact Ok.ret fun h => by simp at h) ?_
 ·rintro j _ hj hI
  obtain ⟨a, h⟩ := Qy hj
  have hm := List.mem_of_getElem? h
  obtain ⟨a0, a1, _, a3⟩ := ho.asg j a h
  rw [Qq, h, Option.bind_some]
  obtain ⟨⟨y, yb⟩, ey, hy⟩ := Qda hvl hv (fu := fu) hx a3 (ha a hm) hf
  rw [ey, Option.bind_some]
  simp only [QO]
  obtain ⟨F, e1, e2, _, _⟩ := QeH hv a0 a1
  cases yb with
  | false => exact Ok.ret rfl
  | true =>
   rw [if_neg (by simp), hx, e1, Option.bind_some]
   by_cases c1 : y < F.Lo
   ·rw [if_pos (decide_eq_true c1)]
    exact Ok.ret Z
   ·rw [if_neg (by simpa using c1)]
    by_cases c2 : F.Hi < y
    ·rw [decide_eq_true c2]
     exact Ok.ret Z
    ·rw [decide_eq_false c2]
     refine Ok.ret (fun k b hk hb => ?_)
     by_cases e : k = j
     ·subst e; rw [h] at hb; cases hb; exact ⟨y, F, ey, e2, by omega, by omega⟩
     ·exact hI k b (by omega) hb
 ·rintro _ hI
  exact Ok.ret fun _ j a h => hI j a (List.getElem?_eq_some_iff.1 h).1 h
end
end Go.Pw
/- -/
set_option maxHeartbeats 4000000
namespace Go.Pw
structure FL (vars : List Int) (l : List Fact) : Prop where
 p : l.Pairwise (fun a b => a.Var < b.Var)
 r : ∀ f ∈ l, InF vars f
theorem Qjr (a b : Fact) : eqs [a.Var, a.Val] [b.Var, b.Val] = true ↔ a = b := by
 obtain ⟨a1, a2⟩ := a
 obtain ⟨b1, b2⟩ := b
 simp [eqs]
theorem QgO (s : List Fact) : QT s = Qfb (fun a b => eqs [a.Var, a.Val] [b.Var, b.Val]) ⟨0, 0⟩ s := rfl
theorem Qju {a b : Fact} : Qb6 a b < 0 ↔ (a.Var < b.Var ∨ (a.Var = b.Var ∧ a.Val < b.Val)) := by
 unfold Qb6
 by_cases c : a.Var = b.Var
 ·rw [if_neg (by simp [c])]; omega
 ·rw [if_pos c]; omega
theorem Qjc (l : List Fact) : (l.mergeSort fun x y => !decide (Qb6 y x < 0)).Pairwise fun a b => a.Var ≤ b.Var := by
 have key : ∀ a b : Fact, (!decide (Qb6 a b < 0)) = true ↔ ¬ (a.Var < b.Var ∨ (a.Var = b.Var ∧ a.Val < b.Val)) := fun a b => by rw [← Qju]; simp
 have h := List.pairwise_mergeSort (le := fun x y : Fact => !decide (Qb6 y x < 0)) (fun a b c h1 h2 => ?_) (fun a b => ?_) l
 ·refine h.imp fun {a b} h => ?_
  have := (key b a).1 h
  omega
 ·have h1 := (key b a).1 h1
  have h2 := (key c b).1 h2
  exact (key c a).2 (by omega)
 ·rw [Bool.or_eq_true, key b a, key a b]
  omega
theorem QhT {l : List Int} {n : Nat} (h : Asc l (n : Int)) : l.length ≤ n := by
 refine GrpOK.len ⟨QeJ h, ?_⟩
 have key : ∀ (d i : Nat) (a b : Int), l[i]? = some a → l[i + d + 1]? = some b → a < b := by
  intro d
  induction d with
  | zero => intro i a b ha hb; exact (h (i + 1) b hb).2.2 a (by omega) (by simpa using ha)
  | succ d ih =>
   intro i a b ha hb
   obtain ⟨m, hm⟩ := Qy (xs := l) (i := i + d + 1) (by have := (List.getElem?_eq_some_iff.1 hb).1; omega)
   have h1 := ih i a m ha hm
   have h2 := (h (i + (d + 1) + 1) b hb).2.2 m (by omega) (by rw [← hm]; congr 1)
   omega
 rw [List.pairwise_iff_getElem]
 intro i j hi hj hij
 exact key (j - i - 1) i _ _ (List.getElem?_eq_getElem hi) (by rw [show i + (j - i - 1) + 1 = j by omega]; exact List.getElem?_eq_getElem hj)
theorem Qik {l : List Fact} (h : l.Pairwise fun a b => a.Var ≤ b.Var) (hn : ∀ (k : Nat) a b, l[k]? = some a → l[k + 1]? = some b → b.Var ≠ a.Var) : l.Pairwise fun a b => a.Var < b.Var := by
 rw [List.pairwise_iff_getElem] at *
 intro i j hi hj hij
 have h1 := h i (i + 1) hi (by omega) (by omega)
 have h2 := hn i _ _ (List.getElem?_eq_getElem hi) (List.getElem?_eq_getElem (by omega : i + 1 < l.length))
 by_cases e : i + 1 = j
 ·subst e; omega
 ·have h3 := h (i + 1) j (by omega) hj (by omega)
  omega
section
variable {g : Ground} (hv : ValidG g) {x : encode_encoder} (hx : XOK g x)
include hv hx
omit hv in
theorem QfR {i : Int} (h0 : 0 ≤ i) (h1 : i < (g.Atoms.length : Int)) : ∃ f, Q9 x.atoms i = some f ∧ InF x.vars f ∧ 1 ≤ f.Val := by
 obtain ⟨f, e1, e2⟩ := K2 (xs := x.atoms) h0 (by rw [hx.v.al]; exact h1)
 have := hx.v.fact f (List.mem_of_getElem? e2)
 exact ⟨f, e1, this.1, this.2⟩
omit hv in
theorem InF.RF {f : Fact} (h : InF x.vars f) : RF f := by
 obtain ⟨h0, h1, d, h2, h3⟩ := h
 have := (List.getElem?_eq_some_iff.1 h2).1
 have h4 := hx.v.vl
 have h5 := hx.v.vr d (List.mem_of_getElem? h2)
 exact ⟨by omega, by omega, by omega, by omega⟩
theorem QjL {vals : List Int} (hl : ValsOK g vals) {i : Int} (h0 : 0 ≤ i) (h1 : i < (g.Fluents.length : Int)) :
  ∃ v y F, Q9 x.fluents i = some v ∧ Q9 vals i = some y ∧ Q9 x.g.Fluents i = some F ∧ IntKind.i64.wrap (y - F.Lo) = y - F.Lo ∧ InF x.vars ⟨v, y - F.Lo⟩ := by
 obtain ⟨F, e1, e2, ⟨o1, o2, o3, o4, o5⟩, _⟩ := QeH hv h0 h1
 obtain ⟨v, e3, e4⟩ := K2 (xs := x.fluents) h0 (by rw [hx.v.fl]; exact h1)
 obtain ⟨y, e5, e6⟩ := K2 (xs := vals) h0 (by rw [hl.l]; exact h1)
 have h2 := hx.v.fv i.toNat F v e2 e4
 have h3 := hl.r i.toNat F y e2 e6
 exact ⟨v, y, F, e3, e5, by rw [hx.e]; exact e1, J1 (by omega) (by omega), h2.1, by simp only; omega, _, h2.2, by simp only; omega⟩
theorem QeZ {c : Cond} {fluents vals : List Int} {more : List Fact} (hc : CondOK (g.Atoms.length : Int) (g.Fluents.length : Int) c) (hf : GrpOK g.Fluents.length fluents) (hl : ValsOK g vals) (hm : more.length ≤ 1) (hmo : ∀ f ∈ more, InF x.vars f) :
  Ok (QB x c fluents vals more) fun r => r.2 = true → FL x.vars r.1 := by
 have hA := hv.a
 have hF := hv.f
 have lf := hf.len
 have lp := QhT hc.p
 have ln := QhT hc.n
 unfold QB Kd
 rw [Jq (by simp only [List.length_nil]; omega)]
 simp only [Option.bind_some, List.nil_append]
 refine Ok.bind (Jg (fun j (l : List Fact) => l.length ≤ 1 + j ∧ ∀ f ∈ l, InF x.vars f) ⟨by omega, hmo⟩ ?_ ?_)
 ·rintro j l hj ⟨q1, q2⟩
  obtain ⟨i, hi⟩ := Qy hj
  obtain ⟨i0, i1⟩ := QeJ hc.p i (List.mem_of_getElem? hi)
  obtain ⟨f, e1, hf1, _⟩ := QfR hx i0 i1
  rw [Qq, hi, Option.bind_some, e1, Option.bind_some, Jq (by simp only [List.length_singleton]; omega), Option.bind_some]
  refine Ok.ret ⟨by simp only [List.length_append, List.length_singleton]; omega, fun z hz => ?_⟩
  rcases List.mem_append.1 hz with q | q
  ·exact q2 z q
  ·rw [List.mem_singleton.1 q]; exact hf1
 rintro l1 ⟨q1, q2⟩
 refine Ok.bind (Jg (fun j (l : List Fact) => l.length ≤ 1 + c.Pos.length + j ∧ ∀ f ∈ l, InF x.vars f) ⟨by omega, q2⟩ ?_ ?_)
 ·rintro j l hj ⟨q3, q4⟩
  obtain ⟨i, hi⟩ := Qy hj
  obtain ⟨i0, i1⟩ := QeJ hc.n i (List.mem_of_getElem? hi)
  obtain ⟨f, e1, ⟨hf0, _, d, hd1, hd2⟩, hf2⟩ := QfR hx i0 i1
  rw [Qq, hi, Option.bind_some, e1, Option.bind_some, Jq (by simp only [List.length_singleton]; omega), Option.bind_some]
  refine Ok.ret ⟨by simp only [List.length_append, List.length_singleton]; omega, fun z hz => ?_⟩
  rcases List.mem_append.1 hz with q | q
  ·exact q4 z q
  ·rw [List.mem_singleton.1 q]; exact ⟨hf0, by simp, d, hd1, by simp only; omega⟩
 rintro l2 ⟨q3, q4⟩
 refine Ok.bind (Jg (fun j (l : List Fact) => l.length ≤ 1 + c.Pos.length + c.Neg.length + j ∧ ∀ f ∈ l, InF x.vars f) ⟨by omega, q4⟩ ?_ ?_)
 ·rintro j l hj ⟨q5, q6⟩
  obtain ⟨i, hi⟩ := Qy hj
  obtain ⟨i0, i1⟩ := hf.r i (List.mem_of_getElem? hi)
  obtain ⟨v, y, F, e1, e2, e3, e4, e5⟩ := QjL hv hx hl i0 i1
  rw [Qq, hi, Option.bind_some, e1, Option.bind_some, e2, Option.bind_some, e3, Option.bind_some, e4, Jq (by simp only [List.length_singleton]; omega), Option.bind_some]
  refine Ok.ret ⟨by simp only [List.length_append, List.length_singleton]; omega, fun z hz => ?_⟩
  rcases List.mem_append.1 hz with q | q
  ·exact q6 z q
  ·rw [List.mem_singleton.1 q]; exact e5
 rintro l3 ⟨q5, q6⟩
 unfold Kf
 rw [if_pos ⟨by omega, fun f hf => (q6 f hf).RF hx⟩]
 simp only [Option.bind_some]
 generalize hs : (l3.mergeSort fun x y => !decide (Qb6 y x < 0)) = s
 have hpw : s.Pairwise fun a b => a.Var ≤ b.Var := by rw [← hs]; exact Qjc l3
 have hpm : s.Perm l3 := by rw [← hs]; exact List.mergeSort_perm _ _
 have hsl := hpm.length_eq
 rw [QgO]
 refine Ok.bind ((Qdm Qjr ⟨0, 0⟩ s (by omega)).mono ?_)
 rintro ⟨n, L⟩ ⟨z1, z2, z3⟩
 simp only at z1 z2 z3
 simp only [QO]
 refine Ok.must (by simp; omega) ?_
 rw [z3]
 have hsub := QiN s none
 have hdl := QiO s none
 generalize dd none s = D at *
 refine Qa1 (fun (i : Int) => 1 ≤ i ∧ i ≤ 1 + (D.length : Int) ∧ ∀ (k : Nat) a b, (k : Int) + 1 < i → D[k]? = some a → D[k + 1]? = some b → b.Var ≠ a.Var)
  (fun _ => ∀ (k : Nat) a b, D[k]? = some a → D[k + 1]? = some b → b.Var ≠ a.Var) (fun r => r.2 = false) (fun i => (1 + (D.length : Int) - i).toNat) ⟨by omega, by omega, fun k a b h => by omega⟩ ?_ (fun r h => Ok.ret fun h2 => by rw [h] at h2; cases h2) ?_
 ·rintro i ⟨h1, h2, h3⟩
  by_cases c1 : i < (D.length : Int)
  ·rw [if_pos (decide_eq_true c1)]
   obtain ⟨b, e1, e2⟩ := K2 (xs := D) (i := i) (by omega) c1
   obtain ⟨a, e3, e4⟩ := K2 (xs := D) (i := i - 1) (by omega) (by omega)
   rw [e1, Option.bind_some, J1 (by omega) (by omega), e3, Option.bind_some]
   by_cases c2 : b.Var = a.Var
   ·rw [if_pos (decide_eq_true c2)]
    exact ⟨_, Z, (by intro s' h; cases h), (by intro s' h; cases h), (by intro r h; cases h; rfl)⟩
   ·rw [if_neg (by simpa using c2), J1 (by omega) (by omega)]
    refine ⟨_, Z, (by
     intro s' h
     cases h
     refine ⟨⟨by omega, by omega, fun k a' b' hk ha hb => ?_⟩, by omega⟩
     by_cases e : (k : Int) + 1 < i
     ·exact h3 k a' b' e ha hb
     ·have ek : k = (i - 1).toNat := by omega
      have ek2 : k + 1 = i.toNat := by omega
      rw [ek, e4] at ha
      rw [ek2, e2] at hb
      cases ha; cases hb; exact c2), (by intro s' h; cases h), (by intro r h; cases h)⟩
  ·rw [if_neg (by simpa using c1)]
   refine ⟨_, Z, (by intro s' h; cases h), (by
    intro s' h
    cases h
    intro k a b ha hb
    exact h3 k a b (by have := (List.getElem?_eq_some_iff.1 hb).1; omega) ha hb), (by intro r h; cases h)⟩
 ·intro i hn
  exact Ok.ret fun _ => ⟨Qik (hpw.sublist hsub) hn, fun f hf => q6 f (hpm.mem_iff.1 (hsub.subset hf))⟩
omit hv hx in
end
end Go.Pw
/- -/
set_option maxHeartbeats 4000000
set_option maxRecDepth 100000
namespace Go.Pw
theorem Qir {l : List Int} {n : Nat} (hn : l.Nodup) (hr : ∀ x ∈ l, 0 ≤ x ∧ x < (n : Int)) : l.length ≤ n := by
 have hm : ∀ x, x ∈ srt l ↔ x ∈ l := fun x => (Qa0 _).mem_iff
 have : GrpOK n (srt l) := by
  refine ⟨fun x hx => hr x ((hm x).1 hx), ?_⟩
  have h2 : (srt l).Pairwise (· ≠ ·) := (Qa0 _).nodup_iff.2 hn
  exact ((QfP l).and h2).imp fun {a b} ⟨x, y⟩ => by omega
 have := this.len
 rw [(Qa0 _).length_eq] at this
 exact this
theorem QjN {n : Nat} {l : List GAssign} (h : ∀ j, Qed (n : Int) l j) : l.length ≤ n := by
 have := Qir (l := l.map (·.Fluent)) (n := n) ?_ ?_
 ·simpa using this
 ·rw [List.nodup_iff_pairwise_ne, List.pairwise_map, List.pairwise_iff_getElem]
  intro i j hi hj hij
  exact (h j _ (List.getElem?_eq_getElem hj)).2.2.1 i _ hij (List.getElem?_eq_getElem hi)
 ·intro x hx
  obtain ⟨a, ha, rfl⟩ := List.mem_map.1 hx
  obtain ⟨j, hj⟩ := List.mem_iff_getElem?.1 ha
  exact ⟨(h j a hj).1, (h j a hj).2.1⟩
structure Fuel (g : Ground) (fu : Nat) : Prop where
 f : SizeOf.sizeOf (⟨[], g.Fluents, [], [], []⟩ : Ground) ≤ fu
 c : ∀ c ∈ g.Goal, ∀ t ∈ c.Tests, SizeOf.sizeOf t.A < fu ∧ SizeOf.sizeOf t.B < fu
 o : ∀ o ∈ g.Ops, SizeOf.sizeOf o ≤ fu ∧ (∀ t ∈ o.Pre.Tests, SizeOf.sizeOf t.A < fu ∧ SizeOf.sizeOf t.B < fu) ∧ (∀ a ∈ o.Assigns, SizeOf.sizeOf a.Value < fu) ∧ ∀ c ∈ o.Changes, ∀ t ∈ c.When.Tests, SizeOf.sizeOf t.A < fu ∧ SizeOf.sizeOf t.B < fu
structure EffOK (vars : List Int) (e : Effect) : Prop where
 w : FL vars e.When
 f : InF vars ⟨e.Var, e.Val⟩
section
variable {g : Ground} (hv : ValidG g) {x : encode_encoder} (hx : XOK g x)
include hv hx
theorem Qg5 {fu : Nat} {c : Cond} {given vals : List Int} {more : List Fact} (hc : CondOK (g.Atoms.length : Int) (g.Fluents.length : Int) c) (hs : ∀ t ∈ c.Tests, SizeOf.sizeOf t.A < fu ∧ SizeOf.sizeOf t.B < fu) (hf : SizeOf.sizeOf (⟨[], g.Fluents, [], [], []⟩ : Ground) ≤ fu)
  (hg : ∀ i ∈ given, 0 ≤ i ∧ i < (g.Fluents.length : Int)) (hp : ∀ y, QE fu c.Tests given = some y → KX g y ≤ 256) (hl : ValsOK g vals) (hm : more.length ≤ 1) (hmo : ∀ f ∈ more, InF x.vars f) :
  Ok (QP fu x c given vals more) fun out => out.length ≤ 256 ∧ ∀ l ∈ out, FL x.vars l := by
 unfold QP
 obtain ⟨y, ey, hy⟩ := Yz hv.f (fu := fu) hc.t (fun t ht => ⟨Nat.le_of_lt (hs t ht).1, Nat.le_of_lt (hs t ht).2⟩) hg
 rw [ey, Option.bind_some]
 refine Ok.bind ((Qcs hv hx.e hy (hp y ey) hl).mono ?_)
 rintro as ⟨ha1, ha2⟩
 refine Ok.bind (Jg (fun j (out : List (List Fact)) => out.length ≤ j ∧ ∀ l ∈ out, FL x.vars l) ⟨by simp, by simp⟩ ?_ ?_)
 ·rintro j out hj ⟨q1, q2⟩
  obtain ⟨v, hvj⟩ := Qy hj
  have hvv := ha2 v (List.mem_of_getElem? hvj)
  rw [Qq, hvj, Option.bind_some]
  refine Ok.bind ((Qgz hvv hv hx.e hc.t hs hf).mono fun b _ => ?_)
  refine Jm (fun _ => Ok.ret ⟨by omega, q2⟩) fun _ => ?_
  refine Ok.bind ((QeZ hv hx hc hy hvv hm hmo).mono ?_)
  rintro ⟨l, ok⟩ hlk
  simp only [QO]
  refine Ok.bind (Jm (fun h => ?_) (fun _ => Ok.ret ?_))
  ·rw [Jq (by simp only [List.length_singleton]; omega), Option.bind_some]
   refine Ok.ret (Ok.ret ⟨by simp only [List.length_append, List.length_singleton]; omega, fun z hz => ?_⟩)
   rcases List.mem_append.1 hz with q | q
   ·exact q2 z q
   ·rw [List.mem_singleton.1 q]; exact hlk h
  ·exact Ok.ret ⟨by omega, q2⟩
 ·rintro out ⟨q1, q2⟩
  exact Ok.ret ⟨by omega, q2⟩
omit hv hx in
theorem Qhz (fu : Nat) (x : encode_encoder) (c : Cond) (given vals : List Int) (more : List Fact) : QR fu x c given vals more = QP fu x c given vals more := rfl
theorem Qdl {fu : Nat} {o : GOp} {given vals : List Int} (ho : GOpOK (g.Atoms.length : Int) (g.Fluents.length : Int) o) (hs : ∀ c ∈ o.Changes, ∀ t ∈ c.When.Tests, SizeOf.sizeOf t.A < fu ∧ SizeOf.sizeOf t.B < fu) (hf : SizeOf.sizeOf (⟨[], g.Fluents, [], [], []⟩ : Ground) ≤ fu)
  (hg : ∀ i ∈ given, 0 ≤ i ∧ i < (g.Fluents.length : Int)) (hp : ∀ c ∈ o.Changes, ∀ y, QE fu c.When.Tests given = some y → KX g y ≤ 256) (hl : ValsOK g vals)
  (hpos : ∀ (j : Nat) a, o.Assigns[j]? = some a → ∃ y F, QA fu x a.Value vals = some (y, true) ∧ g.Fluents[a.Fluent.toNat]? = some F ∧ F.Lo ≤ y ∧ y ≤ F.Hi) :
  Ok (Je fu x o given vals) fun out => ∀ e ∈ out, EffOK x.vars e := by
 have hnc := ho.nc
 have hna := QjN ho.asg
 have hF := hv.f
 unfold Je
 obtain ⟨K, hK⟩ : ∃ K : Nat, K = 65536 := ⟨_, rfl⟩
 refine Ok.bind (Jg (fun j (out : List Effect) => out.length ≤ j * K ∧ ∀ e ∈ out, EffOK x.vars e) ⟨by simp, by simp⟩ ?_ ?_)
 ·rintro j out hj ⟨q1, q2⟩
  have hj2 : j < 2 := hj
  have hjK : j * K ≤ 65536 := Nat.le_trans (Nat.mul_le_mul_right K (by omega : j ≤ 1)) (by omega)
  obtain ⟨add, hadd⟩ := Qy (xs := [false, true]) (i := j) hj
  rw [Qq, hadd, Option.bind_some]
  refine Ok.bind (Jg (fun k (out : List Effect) => out.length ≤ j * K + k * 256 ∧ ∀ e ∈ out, EffOK x.vars e) ⟨by omega, q2⟩ ?_ ?_)
  ·rintro k l hk ⟨z1, z2⟩
   obtain ⟨c, hc⟩ := Qy hk
   have hcm := List.mem_of_getElem? hc
   have hco := ho.chg c hcm
   rw [Qq, hc, Option.bind_some]
   refine Jm (fun _ => Ok.ret ⟨by omega, z2⟩) fun _ => ?_
   obtain ⟨f, e1, hf1, hf2⟩ := QfR hx hco.r0 hco.r1
   rw [e1, Option.bind_some]
   have hf0 : InF x.vars ⟨f.Var, 0⟩ := by
    obtain ⟨h0, _, d, h3, h4⟩ := hf1
    exact ⟨h0, by simp, d, h3, by simp only; omega⟩
   have hmz : Ok (if (!add) = true then ((Q9 x.grouped c.Atom).bind fun x104 =>
     (if x104 = true then ((app 16 ([] : (List Fact)) [f]).bind fun l101 => some l101) else (some [])).bind (fun (more100 : (List Fact)) => some (more100, (0 : Int))))
     else (some ([], f.Val))) fun r => r.1.length ≤ 1 ∧ (∀ z ∈ r.1, InF x.vars z) ∧ InF x.vars ⟨f.Var, r.2⟩ := by
    refine Jm (fun _ => ?_) (fun _ => Ok.ret ⟨by simp, by simp, hf1⟩)
    obtain ⟨b, e2, _⟩ := K2 (xs := x.grouped) hco.r0 (by rw [hx.v.gl]; exact hco.r1)
    rw [e2, Option.bind_some]
    refine Ok.bind (Jm (fun _ => ?_) (fun _ => Ok.ret (Ok.ret ⟨by simp, by simp, hf0⟩)))
    rw [Jq (by simp), Option.bind_some]
    exact Ok.ret (Ok.ret ⟨by simp, by simpa using hf1, hf0⟩)
   refine Ok.bind (hmz.mono ?_)
   rintro ⟨more, z⟩ ⟨m1, m2, m3⟩
   simp only at m1 m2 m3
   simp only [QO]
   rw [Qhz]
   refine Ok.bind ((Qg5 hv hx hco.w (hs c hcm) hf hg (hp c hcm) hl m1 m2).mono ?_)
   rintro cs ⟨c1, c2⟩
   refine Ok.bind (Jg (fun n (out : List Effect) => out.length ≤ j * K + k * 256 + n ∧ ∀ e ∈ out, EffOK x.vars e) ⟨by omega, z2⟩ ?_ ?_)
   ·rintro n out' hn ⟨y1, y2⟩
    obtain ⟨w, hw⟩ := Qy hn
    rw [Qq, hw, Option.bind_some, Jq (by simp only [List.length_singleton]; omega), Option.bind_some]
    refine Ok.ret ⟨by simp only [List.length_append, List.length_singleton]; omega, fun e he => ?_⟩
    rcases List.mem_append.1 he with q | q
    ·exact y2 e q
    ·rw [List.mem_singleton.1 q]; exact ⟨c2 w (List.mem_of_getElem? hw), m3⟩
   ·rintro out' ⟨y1, y2⟩
    exact Ok.ret ⟨by rw [Nat.succ_mul]; omega, y2⟩
  ·rintro l ⟨z1, z2⟩
   exact Ok.ret ⟨by rw [Nat.succ_mul]; omega, z2⟩
 rintro out ⟨q1, q2⟩
 have q1 : out.length ≤ 2 * K := q1
 rw [hK] at q1
 refine Ok.bind (Jg (fun j (out : List Effect) => out.length ≤ 131072 + j ∧ ∀ e ∈ out, EffOK x.vars e) ⟨by omega, q2⟩ ?_ (fun l h => Ok.ret h.2))
 rintro j l hj ⟨z1, z2⟩
 obtain ⟨a, ha⟩ := Qy hj
 obtain ⟨a0, a1, _, _⟩ := ho.asg j a ha
 obtain ⟨y, F, ey, eF, y0, y1⟩ := hpos j a ha
 obtain ⟨F', e1, e2, ⟨o1, o2, o3, o4, o5⟩, _⟩ := QeH hv a0 a1
 rw [eF] at e2; cases e2
 obtain ⟨v, e3, e4⟩ := K2 (xs := x.fluents) a0 (by rw [hx.v.fl]; exact a1)
 have hfv := hx.v.fv _ F v eF e4
 rw [Qq, ha, Option.bind_some, ey, Option.bind_some]
 simp only [QO]
 rw [e3, Option.bind_some, hx.e, e1, Option.bind_some, Jq (by simp only [List.length_singleton]; omega), Option.bind_some, J1 (by omega) (by omega)]
 refine Ok.ret ⟨by simp only [List.length_append, List.length_singleton]; omega, fun e he => ?_⟩
 rcases List.mem_append.1 he with q | q
 ·exact z2 e q
 ·rw [List.mem_singleton.1 q]
  exact ⟨⟨List.Pairwise.nil, by simp⟩, hfv.1, by simp only; omega, _, hfv.2, by simp only; omega⟩
end
end Go.Pw
/- -/
set_option maxHeartbeats 4000000
set_option maxRecDepth 100000
namespace Go.Pw
structure NotLarge (g : Ground) (fu : Nat) : Prop where
 c : ∀ c ∈ g.Goal, ∀ y, QE fu c.Tests [] = some y → KX g y ≤ 256
 o : ∀ o ∈ g.Ops, ∀ y, J8 fu o = some y → KX g y ≤ 256 ∧ ∀ c ∈ o.Changes, ∀ z, QE fu c.When.Tests y = some z → KX g z ≤ 256
structure OpOK (vars : List Int) (o : Op) : Prop where
 c0 : 0 ≤ o.Cost
 c1 : o.Cost ≤ 1048576
 nm : o.Name.size ≤ 256
 ch : ∀ x ∈ Kt o.Name, QcL x
 pre : FL vars o.Pre
 eff : ∀ e ∈ o.Effs, EffOK vars e
 ne : o.Effs.length ≤ 64
theorem FL.app {vars : List Int} {l : List Fact} (h : FL vars l) (t : List Int) : FL (vars ++ t) l := ⟨h.p, fun f hf => (h.r f hf).app t⟩
theorem EffOK.app {vars : List Int} {e : Effect} (h : EffOK vars e) (t : List Int) : EffOK (vars ++ t) e := ⟨h.w.app t, h.f.app t⟩
theorem OpOK.app {vars : List Int} {o : Op} (h : OpOK vars o) (t : List Int) : OpOK (vars ++ t) o := ⟨h.c0, h.c1, h.nm, h.ch, h.pre.app t, fun e he => (h.eff e he).app t, h.ne⟩
section
variable {g : Ground} (hv : ValidG g) {x : encode_encoder} (hx : XOK g x) {fu : Nat} (hfu : Fuel g fu)
include hv hx hfu
theorem Qit : Ok (Jo fu x) fun b => b = false → NotLarge g fu := by
 unfold Jo
 rw [hx.e]
 refine Ok.ctl (fun j (_ : Unit) => ∀ (k : Nat) c, k < j → g.Goal[k]? = some c → ∀ y, QE fu c.Tests [] = some y → KX g y ≤ 256) (fun r => r = true) (fun k c h => absurd h (Nat.not_lt_zero k)) ?_ (fun r h => by subst h; exact Ok.ret fun h => by cases h) ?_
 ·rintro j _ hj hI
  obtain ⟨c, hc⟩ := Qy hj
  have hcm := List.mem_of_getElem? hc
  obtain ⟨y, ey, hy⟩ := Yz hv.f (fu := fu) (without := []) (hv.goal c hcm).t (fun t ht => ⟨Nat.le_of_lt (hfu.c c hcm t ht).1, Nat.le_of_lt (hfu.c c hcm t ht).2⟩) (by simp)
  rw [Qq, hc, Option.bind_some, ey, Option.bind_some, QfX hv hx.e hy, Option.bind_some]
  by_cases c1 : 256 < min (KX g y : Int) 257
  ·rw [if_pos (decide_eq_true c1)]
   exact Ok.ret Z
  ·rw [if_neg (by simpa using c1)]
   refine Ok.ret fun k c' hk hc' y' hy' => ?_
   by_cases e : k = j
   ·subst e; rw [hc] at hc'; cases hc'; rw [ey] at hy'; cases hy'; omega
   ·exact hI k c' (by omega) hc' y' hy'
 rintro _ hG
 refine Ok.ctl (fun j (_ : Unit) => ∀ (k : Nat) o, k < j → g.Ops[k]? = some o → ∀ y, J8 fu o = some y → KX g y ≤ 256 ∧ ∀ c ∈ o.Changes, ∀ z, QE fu c.When.Tests y = some z → KX g z ≤ 256) (fun r => r = true) (fun k c h => absurd h (Nat.not_lt_zero k)) ?_ (fun r h => by subst h; exact Ok.ret fun h => by cases h) ?_
 ·rintro j _ hj hI
  obtain ⟨o, ho⟩ := Qy hj
  have hom := List.mem_of_getElem? ho
  have hoo := hv.op o hom
  obtain ⟨f1, f2, f3, f4⟩ := hfu.o o hom
  obtain ⟨y, ey, hy⟩ := Qcm hv.f (fu := fu) hoo f1 (fun t ht => ⟨Nat.le_of_lt (f2 t ht).1, Nat.le_of_lt (f2 t ht).2⟩) (fun a ha => Nat.le_of_lt (f3 a ha))
  rw [Qq, ho, Option.bind_some, ey, Option.bind_some, QfX hv hx.e hy, Option.bind_some]
  by_cases c1 : 256 < min (KX g y : Int) 257
  ·rw [if_pos (decide_eq_true c1)]
   exact Ok.ret Z
  rw [if_neg (by simpa using c1)]
  refine Ok.ctl (fun n (_ : Unit) => ∀ (k : Nat) c, k < n → o.Changes[k]? = some c → ∀ z, QE fu c.When.Tests y = some z → KX g z ≤ 256) (fun r => r = true) (fun k c h => absurd h (Nat.not_lt_zero k)) ?_ (fun r h => Ok.ret h) ?_
  ·rintro n _ hn hJ
   obtain ⟨c, hc⟩ := Qy hn
   have hcm := List.mem_of_getElem? hc
   obtain ⟨z, ez, hz⟩ := Yz hv.f (fu := fu) (without := y) (hoo.chg c hcm).w.t (fun t ht => ⟨Nat.le_of_lt (f4 c hcm t ht).1, Nat.le_of_lt (f4 c hcm t ht).2⟩) hy.r
   rw [Qq, hc, Option.bind_some, ez, Option.bind_some, QfX hv hx.e hz, Option.bind_some]
   by_cases c2 : 256 < min (KX g z : Int) 257
   ·rw [if_pos (decide_eq_true c2)]
    exact Ok.ret Z
   ·rw [if_neg (by simpa using c2)]
    refine Ok.ret fun k c' hk hc' z' hz' => ?_
    by_cases e : k = n
    ·subst e; rw [hc] at hc'; cases hc'; rw [ez] at hz'; cases hz'; omega
    ·exact hJ k c' (by omega) hc' z' hz'
  ·rintro _ hJ
   refine Ok.ret fun k o' hk ho' y' hy' => ?_
   by_cases e : k = j
   ·subst e; rw [ho] at ho'; cases ho'; rw [ey] at hy'; cases hy'
    refine ⟨by omega, fun c hc z hz => ?_⟩
    obtain ⟨i, hi⟩ := List.mem_iff_getElem?.1 hc
    exact hJ i c (List.getElem?_eq_some_iff.1 hi).1 hi z hz
   ·exact hI k o' (by omega) ho' y' hy'
 rintro _ hO
 refine Ok.ret fun _ => ⟨fun c hc => ?_, fun o ho => ?_⟩
 ·obtain ⟨i, hi⟩ := List.mem_iff_getElem?.1 hc
  exact hG i c (List.getElem?_eq_some_iff.1 hi).1 hi
 ·obtain ⟨i, hi⟩ := List.mem_iff_getElem?.1 ho
  exact hO i o (List.getElem?_eq_some_iff.1 hi).1 hi
structure OpsOK (vars : List Int) (ops : List Op) (nums : List Int) : Prop where
 o : ∀ o ∈ ops, OpOK vars o
 l : ops.length = nums.length
 n : ops.length ≤ 4096
theorem Qfx (hnl : NotLarge g fu) {out : Encoding} {i : Nat} {base : List Int} (hi : i < g.Ops.length) (hb : ValsOK g base) (hops : OpsOK x.vars out.Task.Ops out.Ops) :
  Ok (QV fu x out (i : Int) base) fun r => OpsOK x.vars r.2.1 r.2.2 := by
 obtain ⟨o, ho⟩ := Qy hi
 have hom := List.mem_of_getElem? ho
 have hoo := hv.op o hom
 obtain ⟨f1, f2, f3, f4⟩ := hfu.o o hom
 unfold QV
 obtain ⟨y, ey, hy⟩ := Qcm hv.f (fu := fu) hoo f1 (fun t ht => ⟨Nat.le_of_lt (f2 t ht).1, Nat.le_of_lt (f2 t ht).2⟩) (fun a ha => Nat.le_of_lt (f3 a ha))
 obtain ⟨hp1, hp2⟩ := hnl.o o hom y ey
 rw [hx.e, Qq, ho, Option.bind_some, ey, Option.bind_some]
 refine Ok.bind ((Qcs hv hx.e hy hp1 hb).mono ?_)
 rintro as ⟨ha1, ha2⟩
 refine Ok.ctl (fun _ (s : List Op × List Int) => OpsOK x.vars s.1 s.2) (fun r => OpsOK x.vars r.2.1 r.2.2) hops ?_ (fun r h => Ok.ret h) (fun s h => Ok.ret h)
 rintro j ⟨l0, l1⟩ hj hI
 simp only at hI
 obtain ⟨v, hvj⟩ := Qy hj
 have hvv := ha2 v (List.mem_of_getElem? hvj)
 simp only [QO]
 rw [Qq, hvj, Option.bind_some]
 refine Ok.bind ((QgI hvv hv hx.e hoo f2 f3 hfu.f).mono fun b hpos => ?_)
 refine Jm (fun _ => Ok.ret hI) fun c1 => ?_
 refine Ok.bind ((QeZ hv hx hoo.pre hy hvv (more := []) (by simp) (by simp)).mono ?_)
 rintro ⟨pre, ok⟩ hpre
 simp only [QO]
 refine Jm (fun _ => Ok.ret hI) fun c2 => ?_
 refine Ok.bind ((Qdl hv hx hoo f4 hfu.f hy.r hp2 hvv (hpos (by simpa using c1))).mono fun effs heffs => ?_)
 refine Jm (fun _ => Ok.ret hI) fun c3 => ?_
 simp only [Bool.or_eq_false_iff, decide_eq_false_iff_not] at c3
 have hl := hI.l
 have hn := hI.n
 rw [Jq (by simp only [List.length_singleton]; omega), Option.bind_some, Jq (by simp only [List.length_singleton]; omega), Option.bind_some]
 refine Ok.ret ⟨fun z hz => ?_, by simp only [List.length_append, List.length_singleton]; omega, by simp only [List.length_append, List.length_singleton]; omega⟩
 rcases List.mem_append.1 hz with q | q
 ·exact hI.o z q
 ·rw [List.mem_singleton.1 q]
  exact ⟨hoo.c0, hoo.c1, hoo.nm, hoo.ch, hpre (by simpa using c2), heffs, by show effs.length ≤ 64; omega⟩
theorem Qjp (hnl : NotLarge g fu) {base v0 i0 : List Int} {nv : Nat} (hb : ValsOK g base) (hnv : nv = x.vars.length) {ops : List Op} {nums : List Int} (h : OpsOK x.vars ops nums) :
  Ok (ctl (QW (R := (Bool × (List Fact) × (List Int) × (List Int) × (List Op) × (List Int))) (fun i100 => QO fun (l102 : (List Op)) (l103 : (List Int)) => (Q9 g.Goal (i100 : Int)).bind fun x103 =>
 (QP fu x x103 ([] : (List Int)) base ([] : (List Fact))).bind <| fun (y102 : (List (List Fact))) =>
 ctl (QW (R := (Bool × (List Fact) × (List Int) × (List Int) × (List Op) × (List Int))) (fun i101 => QO fun (l104 : (List Op)) (l105 : (List Int)) => (Q9 y102 (i101 : Int)).bind fun x104 =>
 if decide ((l105.length : Int) = 4096) then (some (Ctl.ret (false, [(⟨(nv : Int), 1⟩ : Fact)], v0, i0, l104, l105)))
 else ((app 72 l104 ([(⟨⟨#[]⟩, 0, x104, [(⟨[], (nv : Int), 1⟩ : Effect)]⟩ : Op)])).bind fun l106 =>
 (app 8 l105 [(-1)]).bind fun l107 =>
 some (Ctl.next (l106, l107)))) (y102.length) 0 (l102, l103)) (fun r => some (Ctl.ret r)) (QO fun (l108 : (List Op)) (l109 : (List Int)) => some (Ctl.next (l108, l109)))) (g.Goal.length) 0 (ops, nums)) (fun r => some r) (QO fun (l110 : (List Op)) (l111 : (List Int)) => some (true, [(⟨(nv : Int), 1⟩ : Fact)], v0, i0, l110, l111)))
  fun r => r.2.1 = [⟨(nv : Int), 1⟩] ∧ r.2.2.1 = v0 ∧ r.2.2.2.1 = i0 ∧ OpsOK (x.vars ++ [2]) r.2.2.2.2.1 r.2.2.2.2.2 := by
 refine Ok.ctl (fun _ (s : List Op × List Int) => OpsOK (x.vars ++ [2]) s.1 s.2) (fun r => r.2.1 = [⟨(nv : Int), 1⟩] ∧ r.2.2.1 = v0 ∧ r.2.2.2.1 = i0 ∧ OpsOK (x.vars ++ [2]) r.2.2.2.2.1 r.2.2.2.2.2) ⟨fun o ho => (h.o o ho).app _, h.l, h.n⟩ ?_ (fun r h => Ok.ret h) ?_
 ·rintro j ⟨l0, l1⟩ hj hI
  simp only at hI
  obtain ⟨c, hc⟩ := Qy hj
  have hcm := List.mem_of_getElem? hc
  simp only [QO]
  rw [Qq, hc, Option.bind_some]
  refine Ok.bind ((Qg5 hv hx (hv.goal c hcm) (hfu.c c hcm) hfu.f (given := []) (by simp) (hnl.c c hcm) hb (more := []) (by simp) (by simp)).mono ?_)
  rintro cs ⟨c1, c2⟩
  refine Ok.ctl (fun _ (s : List Op × List Int) => OpsOK (x.vars ++ [2]) s.1 s.2) (fun r => r.2.1 = [⟨(nv : Int), 1⟩] ∧ r.2.2.1 = v0 ∧ r.2.2.2.1 = i0 ∧ OpsOK (x.vars ++ [2]) r.2.2.2.2.1 r.2.2.2.2.2) hI ?_ (fun r h => Ok.ret h) (fun s h => Ok.ret h)
  rintro k ⟨m0, m1⟩ hk hJ
  simp only at hJ
  obtain ⟨w, hw⟩ := Qy hk
  simp only [QO]
  rw [Qq, hw, Option.bind_some]
  refine Jm (fun _ => Ok.ret ⟨Z, Z, Z, hJ⟩) fun c3 => ?_
  simp only [decide_eq_false_iff_not] at c3
  have hl := hJ.l
  have hn := hJ.n
  rw [Jq (by simp only [List.length_singleton]; omega), Option.bind_some, Jq (by simp only [List.length_singleton]; omega), Option.bind_some]
  refine Ok.ret ⟨fun z hz => ?_, by simp only [List.length_append, List.length_singleton]; omega, by simp only [List.length_append, List.length_singleton]; omega⟩
  rcases List.mem_append.1 hz with q | q
  ·exact hJ.o z q
  ·rw [List.mem_singleton.1 q]
   refine ⟨by simp, by simp, by simp [ByteArray.size], by simp [Kt], (c2 w (List.mem_of_getElem? hw)).app _, fun e he => ?_, by simp⟩
   rw [List.mem_singleton.1 he, hnv]
   exact ⟨⟨List.Pairwise.nil, by simp⟩, InF.new (k := 1) (d := 2) (by decide) (by decide)⟩
 ·rintro ⟨l0, l1⟩ hI
  simp only at hI
  exact Ok.ret ⟨Z, Z, Z, hI⟩
end
end Go.Pw
/- -/
set_option maxHeartbeats 4000000
set_option maxRecDepth 100000
namespace Go.Pw
def InitOK (vars init : List Int) : Prop := init.length = vars.length ∧ ∀ (k : Nat) d v, vars[k]? = some d → init[k]? = some v → 0 ≤ v ∧ v < d
theorem InitOK.snoc {vars init : List Int} (h : InitOK vars init) : InitOK (vars ++ [2]) (init ++ [0]) := by
 refine ⟨by simp [h.1], fun k d v hd hv => ?_⟩
 by_cases c : k < vars.length
 ·rw [List.getElem?_append_left c] at hd
  rw [List.getElem?_append_left (by rw [h.1]; exact c)] at hv
  exact h.2 k d v hd hv
 ·rw [List.getElem?_append_right (by omega)] at hd
  rw [List.getElem?_append_right (by rw [h.1]; omega)] at hv
  have hk : k - vars.length = 0 := by
   have := (List.getElem?_eq_some_iff.1 hd).1
   simp only [List.length_singleton] at this
   omega
  rw [hk] at hd
  rw [h.1, hk] at hv
  simp only [List.getElem?_cons_zero, Option.some.injEq] at hd hv
  omega
structure TOK (t : Task) : Prop where
 vr : ∀ v ∈ t.Vars, 1 ≤ v ∧ v ≤ 64
 vl : t.Vars.length ≤ 30000
 i : InitOK t.Vars t.Init
 g : FL t.Vars t.Goal
 o : ∀ o ∈ t.Ops, OpOK t.Vars o
 n : t.Ops.length ≤ 4096
section
variable {g : Ground} (hv : ValidG g) {x : encode_encoder} (hx : XOK g x) {fu : Nat} (hfu : Fuel g fu)
include hv hx hfu
theorem Qjo (hnl : NotLarge g fu) {out : Encoding} {base : List Int} (hb : ValsOK g base) (hV : out.Task.Vars = x.vars) (hI : InitOK x.vars out.Task.Init) (hO : OpsOK x.vars out.Task.Ops out.Ops) :
  Ok (Jx fu x out base) fun r => TOK ⟨r.2.2.1, r.2.2.2.1, r.2.1, r.2.2.2.2.1⟩ ∧ ∃ t, r.2.2.1 = x.vars ++ t := by
 have hvl := hx.v.vl
 have last : ∀ {L : List Int} {I : List Int} (r : Bool × List Fact × List Int × List Int × List Op × List Int), L = x.vars ++ [2] → I = out.Task.Init ++ [0] →
   (r.2.1 = [⟨(out.Task.Vars.length : Int), 1⟩] ∧ r.2.2.1 = L ∧ r.2.2.2.1 = I ∧ OpsOK (x.vars ++ [2]) r.2.2.2.2.1 r.2.2.2.2.2) → TOK ⟨r.2.2.1, r.2.2.2.1, r.2.1, r.2.2.2.2.1⟩ ∧ ∃ t, r.2.2.1 = x.vars ++ t := by
  rintro L I ⟨b, gl, vs, ini, ops, nums⟩ rfl rfl ⟨h1, h2, h3, h4⟩
  simp only at h1 h2 h3 h4
  subst h1 h2 h3
  refine ⟨⟨fun v hv' => ?_, by simp only [List.length_append, List.length_singleton]; omega, hI.snoc, ⟨by simp, fun f hf => ?_⟩, h4.o, h4.n⟩, _, Z⟩
  ·rcases List.mem_append.1 hv' with q | q
   ·exact hx.v.vr v q
   ·rw [List.mem_singleton.1 q]; omega
  ·rw [List.mem_singleton.1 hf, hV]
   exact InF.new (by decide) (by decide)
 have rest : Ok ((app 8 out.Task.Vars [2]).bind fun l112 =>
 (app 8 out.Task.Init [0]).bind fun l113 =>
 ctl (QW (R := (Bool × (List Fact) × (List Int) × (List Int) × (List Op) × (List Int))) (fun i102 => QO fun (l114 : (List Op)) (l115 : (List Int)) => (Q9 x.g.Goal (i102 : Int)).bind fun x105 =>
 (QP fu x x105 ([] : (List Int)) base ([] : (List Fact))).bind <| fun (y103 : (List (List Fact))) =>
 ctl (QW (R := (Bool × (List Fact) × (List Int) × (List Int) × (List Op) × (List Int))) (fun i103 => QO fun (l116 : (List Op)) (l117 : (List Int)) => (Q9 y103 (i103 : Int)).bind fun x106 =>
 if decide ((l117.length : Int) = 4096) then (some (Ctl.ret (false, [(⟨(out.Task.Vars.length : Int), 1⟩ : Fact)], l112, l113, l116, l117)))
 else ((app 72 l116 ([(⟨⟨#[]⟩, 0, x106, [(⟨[], (out.Task.Vars.length : Int), 1⟩ : Effect)]⟩ : Op)])).bind fun l118 =>
 (app 8 l117 [(-1)]).bind fun l119 =>
 some (Ctl.next (l118, l119)))) (y103.length) 0 (l114, l115)) (fun r => some (Ctl.ret r)) (QO fun (l120 : (List Op)) (l121 : (List Int)) => some (Ctl.next (l120, l121)))) (x.g.Goal.length) 0 (out.Task.Ops, out.Ops)) (fun r => some r) (QO fun (l122 : (List Op)) (l123 : (List Int)) => some (true, [(⟨(out.Task.Vars.length : Int), 1⟩ : Fact)], l112, l113, l122, l123)))
   fun r => TOK ⟨r.2.2.1, r.2.2.2.1, r.2.1, r.2.2.2.2.1⟩ ∧ ∃ t, r.2.2.1 = x.vars ++ t := by
  have hil := hI.1
  rw [Jq (by rw [hV]; simp only [List.length_singleton]; omega), Option.bind_some, Jq (by simp only [List.length_singleton]; omega), Option.bind_some, hx.e]
  exact (Qjp hv hx hfu hnl (v0 := out.Task.Vars ++ [2]) (i0 := out.Task.Init ++ [0]) (nv := out.Task.Vars.length) hb (by rw [hV]) hO).mono fun r h => last r (by rw [hV]) Z h
 unfold Jx
 rw [hx.e] at *
 by_cases c1 : (g.Goal.length : Int) = 1
 ·obtain ⟨c, e1, e2⟩ := K2 (xs := g.Goal) (i := 0) (by omega) (by omega)
  have hcm := List.mem_of_getElem? e2
  rw [if_pos (decide_eq_true c1), e1, Option.bind_some, Option.bind_some]
  refine Jm (fun _ => ?_) (fun _ => rest)
  rw [Option.bind_some]
  refine Ok.bind ((QeZ hv hx (hv.goal c hcm) (fluents := []) ⟨by simp, List.Pairwise.nil⟩ hb (more := []) (by simp) (by simp)).mono ?_)
  rintro ⟨l, ok⟩ hl
  simp only [QO]
  refine Jm (fun h => ?_) (fun _ => rest)
  refine Ok.ret ⟨⟨?_, ?_, ?_, ?_, ?_, hO.n⟩, [], by simp [hV]⟩
  ·simp only [hV]; exact hx.v.vr
  ·simp only [hV]; omega
  ·simp only [hV]; exact hI
  ·simp only [hV]; exact hl h
  ·simp only [hV]; exact hO.o
 ·rw [if_neg (by simpa using c1), Option.bind_some, if_neg (by simp)]
  exact rest
end
/-! ### the check -/
theorem Qfn {vars : List Int} {l : List Fact} (h : FL vars l) : KS vars l = some true := by
 apply Ok.eq
 unfold KS
 refine Ok.ctl (fun j (last : Int) => ∀ f, l[j]? = some f → last < f.Var) (fun _ => False) (fun f hf => by have := (h.r f (List.mem_of_getElem? hf)).1; omega) ?_ (fun _ h => h.elim) (fun _ _ => Ok.ret Z)
 rintro j last hj hI
 obtain ⟨f, hf⟩ := Qy hj
 obtain ⟨h0, h1, d, h2, h3⟩ := h.r f (List.mem_of_getElem? hf)
 have hlt := (List.getElem?_eq_some_iff.1 h2).1
 have := hI f hf
 have hd : Q9 vars f.Var = some d := by unfold Q9; rw [if_pos h0]; exact h2
 rw [Qq, hf, Option.bind_some, if_neg (by simp; omega), if_neg (by simp; omega), if_neg (by simp; omega), hd, Option.bind_some, decide_eq_false (by omega), Option.bind_some, if_neg (by simp)]
 refine Ok.ret fun f' hf' => ?_
 have hp := List.pairwise_iff_getElem.1 h.p j (j + 1) (List.getElem?_eq_some_iff.1 hf).1 (List.getElem?_eq_some_iff.1 hf').1 (by omega)
 rw [(List.getElem?_eq_some_iff.1 hf).2, (List.getElem?_eq_some_iff.1 hf').2] at hp
 exact hp
theorem QgE {s : ByteArray} (h1 : ∀ x ∈ Kt s, QcL x) (h2 : s.size ≤ 256) : YU s = some true := by
 apply Ok.eq
 unfold YU
 refine Ok.must (by simp; omega) ?_
 have hl : (Kt s).length = s.size := by simp [Kt]
 refine Ok.ctl (fun _ (_ : Unit) => True) (fun _ => False) trivial ?_ (fun _ h => h.elim) (fun _ _ => Ok.ret (by simp; omega))
 rintro j _ hj _
 obtain ⟨c, hc⟩ := Qy (xs := Kt s) (i := j) (by rw [hl]; omega)
 obtain ⟨c0, c1⟩ := h1 c (List.mem_of_getElem? hc)
 rw [Qq, hc, Option.bind_some, if_neg (by simp; omega), decide_eq_false (by omega), Option.bind_some, if_neg (by simp)]
 exact Ok.ret trivial
theorem QfA {t : Task} (h : TOK t) : Ok (JY t) fun l => ∀ c ∈ l, FL t.Vars c := by
 have hn := h.n
 unfold JY
 refine Ok.bind (Jg (fun j (l : List (List Fact)) => l.length ≤ 1 + j * 65 ∧ ∀ c ∈ l, FL t.Vars c) ⟨by simp, fun c hc => by rw [List.mem_singleton.1 hc]; exact h.g⟩ ?_ (fun l h => Ok.ret h.2))
 rintro j l hj ⟨q1, q2⟩
 obtain ⟨o, ho⟩ := Qy hj
 have hoo := h.o o (List.mem_of_getElem? ho)
 have hne := hoo.ne
 rw [Qq, ho, Option.bind_some, Jq (by simp only [List.length_singleton]; omega), Option.bind_some]
 refine Ok.bind (Jg (fun k (l : List (List Fact)) => l.length ≤ 2 + j * 65 + k ∧ ∀ c ∈ l, FL t.Vars c) ⟨by simp only [List.length_append, List.length_singleton]; omega, fun c hc => ?_⟩ ?_ ?_)
 ·rcases List.mem_append.1 hc with q | q
  ·exact q2 c q
  ·rw [List.mem_singleton.1 q]; exact hoo.pre
 ·rintro k m hk ⟨z1, z2⟩
  obtain ⟨e, he⟩ := Qy hk
  rw [Qq, he, Option.bind_some, Jq (by simp only [List.length_singleton]; omega), Option.bind_some]
  refine Ok.ret ⟨by simp only [List.length_append, List.length_singleton]; omega, fun c hc => ?_⟩
  rcases List.mem_append.1 hc with q | q
  ·exact z2 c q
  ·rw [List.mem_singleton.1 q]; exact (hoo.eff e (List.mem_of_getElem? he)).w
 ·rintro m ⟨z1, z2⟩
  exact Ok.ret ⟨by omega, z2⟩
theorem Qif {t : Task} (h : TOK t) : Ok (YV t) fun _ => True := by
 unfold YV
 refine Jm (fun _ => Ok.ret trivial) fun _ => ?_
 refine Ok.ctl (fun _ (_ : Unit) => True) (fun _ => True) trivial ?_ (fun _ _ => Ok.ret trivial) ?_
 ·rintro j _ hj _
  obtain ⟨o, ho⟩ := Qy hj
  rw [Qq, ho, Option.bind_some]
  exact Jm (fun _ => Ok.ret trivial) (fun _ => Ok.ret trivial)
 rintro _ _
 refine Ok.bind ((QfA h).mono fun l _ => ?_)
 unfold Jb Jk
 refine Ok.bind (Ok.bind ?_)
 refine Ok.ctl (fun _ (_ : Unit) => True) (fun _ => True) trivial ?_ (fun _ _ => Ok.ret (Ok.ret (Ok.ret trivial))) (fun _ _ => Ok.ret (Ok.ret (Ok.ret trivial)))
 rintro j _ hj _
 obtain ⟨o, ho⟩ := Qy hj
 rw [Qq, ho, Option.bind_some]
 exact Jm (fun _ => Ok.ret trivial) (fun _ => Ok.ret trivial)
theorem Qgf {vars s : List Int} (h : InitOK vars s) : YA vars s = some true := by
 apply Ok.eq
 unfold YA
 rw [if_neg (by simp [h.1])]
 refine Ok.ctl (fun _ (_ : Unit) => True) (fun _ => False) trivial ?_ (fun _ h => h.elim) (fun _ _ => Ok.ret Z)
 rintro j _ hj _
 obtain ⟨v, hv⟩ := Qy hj
 obtain ⟨d, hd⟩ := Qy (xs := vars) (i := j) (by rw [← h.1]; exact hj)
 have := h.2 j d v hd hv
 rw [Qq, hv, Option.bind_some, if_neg (by simp; omega), Qq, hd, Option.bind_some, decide_eq_false (by omega), Option.bind_some, if_neg (by simp)]
 exact Ok.ret trivial
theorem Qih {t : Task} (h : TOK t) : Ok (KT t) fun r => r = none ∨ r = some 5 := by
 unfold KT
 refine Ok.bind ((Qif h).mono fun b _ => ?_)
 refine Jm (fun _ => Ok.ret (.inr Z)) fun _ => ?_
 refine Ok.ctl (fun _ (_ : Unit) => True) (fun _ => False) trivial ?_ (fun _ h => h.elim) ?_
 ·rintro j _ hj _
  obtain ⟨v, hv⟩ := Qy hj
  have := h.vr v (List.mem_of_getElem? hv)
  rw [Qq, hv, Option.bind_some, if_neg (by simp; omega)]
  exact Ok.ret trivial
 rintro _ _
 refine Ok.ctl (fun _ (_ : Unit) => True) (fun _ => False) trivial ?_ (fun _ h => h.elim) ?_
 ·rintro j _ hj _
  obtain ⟨o, ho⟩ := Qy hj
  have hoo := h.o o (List.mem_of_getElem? ho)
  have := hoo.c0
  have := hoo.c1
  rw [Qq, ho, Option.bind_some, if_neg (by simp; omega)]
  exact Ok.ret trivial
 rintro _ _
 rw [Qgf h.i, Option.bind_some, if_neg (by simp)]
 refine Ok.bind ((QfA h).mono fun l hl => ?_)
 refine Ok.ctl (fun _ (_ : Unit) => True) (fun _ => False) trivial ?_ (fun _ h => h.elim) ?_
 ·rintro j _ hj _
  obtain ⟨c, hc⟩ := Qy hj
  rw [Qq, hc, Option.bind_some, Qfn (hl c (List.mem_of_getElem? hc)), Option.bind_some, if_neg (by simp)]
  exact Ok.ret trivial
 rintro _ _
 refine Ok.ctl (fun _ (_ : Unit) => True) (fun _ => False) trivial ?_ (fun _ h => h.elim) ?_
 ·rintro j _ hj _
  obtain ⟨o, ho⟩ := Qy hj
  have hoo := h.o o (List.mem_of_getElem? ho)
  rw [Qq, ho, Option.bind_some]
  refine Ok.ctl (fun _ (_ : Unit) => True) (fun _ => False) trivial ?_ (fun _ h => h.elim) (fun _ _ => Ok.ret trivial)
  rintro k _ hk _
  obtain ⟨e, he⟩ := Qy hk
  rw [Qq, he, Option.bind_some, Qfn (l := [⟨e.Var, e.Val⟩]) ⟨by simp, fun f hf => by rw [List.mem_singleton.1 hf]; exact (hoo.eff e (List.mem_of_getElem? he)).f⟩, Option.bind_some, if_neg (by simp)]
  exact Ok.ret trivial
 rintro _ _
 refine Ok.ctl (fun _ (_ : Unit) => True) (fun _ => False) trivial ?_ (fun _ h => h.elim) (fun _ _ => Ok.ret (.inl Z))
 rintro j _ hj _
 obtain ⟨o, ho⟩ := Qy hj
 have hoo := h.o o (List.mem_of_getElem? ho)
 rw [Qq, ho, Option.bind_some, QgE hoo.ch hoo.nm, Option.bind_some, if_neg (by simp)]
 exact Ok.ret trivial
end Go.Pw
/- -/
set_option maxHeartbeats 4000000
set_option maxRecDepth 100000
namespace Go.Pw
theorem InitOK.set {vars init : List Int} (h : InitOK vars init) {f : Fact} (hf : InF vars f) : InitOK vars (init.set f.Var.toNat f.Val) := by
 obtain ⟨h0, h1, d, h2, h3⟩ := hf
 refine ⟨by simp [h.1], fun k d' v hd hv => ?_⟩
 rw [Qcy] at hv
 by_cases e : f.Var.toNat = k
 ·rw [if_pos e] at hv
  split at hv
  ·cases hv
   rw [← e, h2] at hd
   cases hd
   exact ⟨h1, h3⟩
  ·cases hv
 ·rw [if_neg e] at hv
  exact h.2 k d' v hd hv
theorem QhS {g : Ground} {fu : Nat} {b : List Int → Bool} {groups : List (List Int)} (h : ∀ l ∈ groups, QQ fu g l = some (b l)) :
  Q6 fu groups g = some (groups.any fun l => !b l) := by
 apply Ok.eq
 unfold Q6 QZ
 refine Ok.bind ?_
 refine Ok.ctl (fun j (_ : Unit) => ∀ (k : Nat) l, k < j → groups[k]? = some l → b l = true) (fun r => 0 ≤ r ∧ groups.any (fun l => !b l) = true) (fun k l h => absurd h (Nat.not_lt_zero k)) ?_ (fun r ⟨h0, h1⟩ => Ok.ret (Ok.ret (by rw [h1, decide_eq_true h0]))) ?_
 ·rintro j _ hj hI
  obtain ⟨l, hl⟩ := Qy hj
  have hlm := List.mem_of_getElem? hl
  unfold Ko
  rw [Qq, hl, Option.bind_some, h l hlm, Option.bind_some, Option.bind_some]
  cases hb : b l with
  | false => exact Ok.ret ⟨by omega, List.any_eq_true.2 ⟨l, hlm, by simp [hb]⟩⟩
  | true =>
   refine Ok.ret fun k l' hk hl' => ?_
   by_cases e : k = j
   ·subst e; rw [hl] at hl'; cases hl'; exact hb
   ·exact hI k l' (by omega) hl'
 ·rintro _ hI
  refine Ok.ret (Ok.ret ?_)
  have : (groups.any fun l => !b l) = false := by
   rw [List.any_eq_false]
   intro l hl
   obtain ⟨k, hk⟩ := List.mem_iff_getElem?.1 hl
   simp [hI k l (List.getElem?_eq_some_iff.1 hk).1 hk]
  rw [this]; decide
abbrev Qh5 : Encoding := ⟨⟨[], [], [], []⟩, [], [], []⟩
theorem Qhv {g : Ground} {fu : Nat} {groups : List (List Int)} (hl : LenG g) (hs : SizeOf.sizeOf g ≤ fu) (h : ¬ ValidG g) : QX fu g groups = some (some 2, Qh5) := by
 classical
 unfold QX
 rw [Y9 hl hs, Option.bind_some, decide_eq_false h, if_pos (by simp), Option.bind_some, if_pos rfl]
theorem Qgj {g : Ground} {fu : Nat} {b : List Int → Bool} {groups : List (List Int)} (hl : LenG g) (hs : SizeOf.sizeOf g ≤ fu) (hv : ValidG g) (h : ∀ l ∈ groups, QQ fu g l = some (b l)) (hb : (groups.any fun l => !b l) = true) : QX fu g groups = some (some 2, Qh5) := by
 classical
 unfold QX
 rw [Y9 hl hs, Option.bind_some, decide_eq_true hv, if_neg (by simp), QhS h, Option.bind_some, Option.bind_some, if_pos hb]
def Qkz (n : Nat) (e : Encoding) : Prop := e.Atoms.length = n ∧ ∀ (i : Nat), i < n → e.Atoms[i]? = some ⟨(i : Int), 1⟩ ∧ e.Task.Vars[i]? = some 2
theorem Qek {g : Ground} {fu : Nat} {groups : List (List Int)} (hl : LenG g) (hs : SizeOf.sizeOf g ≤ fu) (hfu : Fuel g fu) (hv : ValidG g) (h : ∀ l ∈ groups, QQ fu g l = some true) (hg : ∀ l ∈ groups, GrpOK g.Atoms.length l) :
  Ok (QX fu g groups) fun r => (r.1 = none ∨ r.1 = some 5) ∧ (r.1 = none → groups = [] → Qkz g.Atoms.length r.2) := by
 classical
 have hA := hv.a
 have hF := hv.f
 unfold QX
 rw [Y9 hl hs, Option.bind_some, decide_eq_true hv, if_neg (by simp), QhS (b := fun _ => true) h, Option.bind_some, Option.bind_some, if_neg (by simp)]
 refine Ok.bind ((Qge hv hg).mono ?_)
 rintro ⟨at', gr, vs, fs⟩ ⟨hV, hown⟩
 simp only at hV hown
 simp only [un4]
 have hx : XOK g ⟨g, vs, at', gr, fs⟩ := ⟨rfl, hV⟩
 have hvl := hV.vl
 have bad : ∀ c : Int, c = 5 → ((some c : Option Int) = none ∨ (some c : Option Int) = some 5) ∧ ((some c : Option Int) = none → groups = [] → Qkz g.Atoms.length Qh5) := fun c hc => ⟨.inr (by rw [hc]), fun h => by cases h⟩
 refine Ok.bind ((Qit hv hx hfu).mono fun b hb => ?_)
 refine Jm (fun _ => Ok.ret (bad 5 Z)) fun hb0 => ?_
 have hnl := hb hb0
 unfold K0
 rw [Jq (by simp only [List.length_nil]; omega)]
 simp only [Option.bind_some, List.nil_append]
 rw [Qh6 (by omega) (by omega), Option.bind_some]
 have hz : InitOK vs (List.replicate vs.length 0) := by
  refine ⟨by simp, fun k d v hd hv' => ?_⟩
  rw [List.getElem?_replicate] at hv'
  split at hv'
  ·cases hv'
   have := hV.vr d (List.mem_of_getElem? hd)
   omega
  ·cases hv'
 refine Ok.bind (Jg (fun _ (l : List Int) => InitOK vs l) hz ?_ ?_)
 ·rintro j l hj hI
  obtain ⟨i, hi⟩ := Qy hj
  obtain ⟨i0, i1⟩ := QeJ hv.i i (List.mem_of_getElem? hi)
  obtain ⟨f, e1, hf1, _⟩ := QfR hx i0 i1
  have hf1 : InF vs f := hf1
  have hf2 := hf1
  obtain ⟨h0, _, d, h2, _⟩ := hf2
  have hlt := (List.getElem?_eq_some_iff.1 h2).1
  have hil := hI.1
  have e1 : Q9 at' i = some f := e1
  obtain ⟨b2, e2, _⟩ := K2 (xs := l) h0 (by omega)
  rw [Qq, hi, Option.bind_some, e1, Option.bind_some, e2, Option.bind_some, QaH h0 (by omega), Option.bind_some]
  exact Ok.ret (hI.set hf1)
 rintro l1 hI1
 refine Ok.bind (Jg (fun j (s : List Int × List Int) => s.1.length = j ∧ (∀ (k : Nat) F, k < j → g.Fluents[k]? = some F → s.1[k]? = some F.Init) ∧ InitOK vs s.2) ⟨Z, fun k F hk => absurd hk (Nat.not_lt_zero k), hI1⟩ ?_ ?_)
 ·rintro j ⟨base, l⟩ hj ⟨q1, q2, q3⟩
  simp only at q1 q2 q3
  obtain ⟨F, hFj⟩ := Qy hj
  obtain ⟨o1, o2, o3, o4, o5⟩ := hv.flu F (List.mem_of_getElem? hFj)
  obtain ⟨v, hvj⟩ := Qy (xs := fs) (i := j) (by rw [hV.fl]; exact hj)
  obtain ⟨v0, v1⟩ := hV.fv j F v hFj hvj
  have hlt := (List.getElem?_eq_some_iff.1 v1).1
  have hil := q3.1
  obtain ⟨b2, e2, _⟩ := K2 (xs := l) v0 (by omega)
  simp only [QO]
  rw [Qq, hFj, Option.bind_some, Jq (by simp only [List.length_singleton]; omega), Option.bind_some, Qq, hvj, Option.bind_some, e2, Option.bind_some, QaH v0 (by omega), Option.bind_some, J1 (by omega) (by omega)]
  refine Ok.ret ⟨by simp [q1], fun k F' hk hF' => ?_, q3.set (f := ⟨v, F.Init - F.Lo⟩) ⟨v0, by simp only; omega, _, v1, by simp only; omega⟩⟩
  simp only
  by_cases e : k = j
  ·subst e
   rw [hFj] at hF'; cases hF'
   rw [List.getElem?_append_right (by omega), q1]; simp
  ·rw [List.getElem?_append_left (by omega)]
   exact q2 k F' (by omega) hF'
 rintro ⟨base, l2⟩ ⟨q1, q2, q3⟩
 simp only at q1 q2 q3
 have hbase : ValsOK g base := ⟨q1, fun j F y hF' hy => by
  have hlt := (List.getElem?_eq_some_iff.1 hF').1
  rw [q2 j F hlt hF'] at hy
  cases hy
  obtain ⟨o1, o2, o3, o4, o5⟩ := hv.flu F (List.mem_of_getElem? hF')
  exact ⟨o2, o3⟩⟩
 simp only [QO]
 refine Ok.ctl (fun _ (s : List Int × List Op × List Int) => ValsOK g s.1 ∧ OpsOK vs s.2.1 s.2.2) (fun r => r = (some 5, Qh5)) ⟨hbase, by simp, Z, by simp⟩ ?_ (fun r h => by subst h; exact Ok.ret (bad 5 Z)) ?_
 ·rintro j ⟨bs, ops, nums⟩ hj ⟨z1, z2⟩
  simp only at z1 z2
  simp only [un3]
  refine Ok.bind ((Qfx hv hx hfu hnl (out := ⟨⟨vs, l2, [], ops⟩, at', fs, nums⟩) hj z1 z2).mono ?_)
  rintro ⟨b, ops', nums'⟩ hr
  simp only [un3]
  exact Jm (fun _ => Ok.ret Z) (fun _ => Ok.ret ⟨z1, hr⟩)
 rintro ⟨bs, ops, nums⟩ ⟨z1, z2⟩
 simp only at z1 z2
 simp only [un3]
 refine Ok.bind ((Qjo hv hx hfu hnl (out := ⟨⟨vs, l2, [], ops⟩, at', fs, nums⟩) z1 Z q3 z2).mono ?_)
 rintro ⟨b, gl, vs', ini', ops', nums'⟩ ⟨ht, t, hpre⟩
 simp only at ht hpre
 simp only [un6]
 refine Jm (fun _ => Ok.ret (bad 5 Z)) fun _ => ?_
 obtain ⟨r, er, hr⟩ := Qih ht
 rw [er, Option.bind_some]
 rcases hr with rfl | rfl
 ·rw [if_neg (by simp)]
  refine Ok.ret ⟨.inl Z, fun _ hgr => ⟨hV.al, fun i hi => ?_⟩⟩
  have := hown hgr i hi
  refine ⟨this.1, ?_⟩
  simp only
  rw [hpre, List.getElem?_append_left (List.getElem?_eq_some_iff.1 this.2).1]
  exact this.2
 ·rw [if_pos (by simp)]
  exact Ok.ret (bad 5 Z)
end Go.Pw
