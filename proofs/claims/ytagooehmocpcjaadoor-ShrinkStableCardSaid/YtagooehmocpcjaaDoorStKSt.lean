/-
  The statement on stable classes, in plain Lean: it holds of every system.
-/
import Derived.Test.YtagooehmocpcjaaDoorStDs
import Derived.Test.YtagooehmocpcjaaDoorStA
set_option maxHeartbeats 4000000
set_option maxRecDepth 100000
set_option linter.unusedSimpArgs false
set_option linter.unusedVariables false
namespace Go.Pw
/-- What reaches a goal in the quotient by stable classes does so in the system, from each state of the class. -/
theorem reach_back {x y : System} (hv : VSys x) {c : List Int} {K : Nat} (hK : KOK c x.States.toNat K) (h : QRes x c K y) (hS : Stable (TSof x hv) (eqL c)) {b : Nat} {w : Int} (hr : Reach (ArcOf y true) (gsrc y) b w) : ∀ i, i < x.States.toNat → cN c i = b → Reach (ArcOf x true) (gsrc x) i w := by
  have hc := hK.clsOf
  have hy := h.v hv hK
  have hg := hv.g
  have s1 := hv.s1
  induction hr with
  | @base b hs =>
    intro i hi e
    refine .base ?_
    unfold gsrc at hs ⊢
    have hbK : b < K := by rw [← e]; exact (hc.get hi).2
    rw [h.g b hbK] at hs
    obtain ⟨j, hj1, hj2⟩ := goalB_iff.1 (Option.some.inj hs)
    have hjn : j < x.States.toNat := by have := (List.getElem?_eq_some_iff.1 hj1).1; rw [hK.len] at this; exact this
    have hij : eqL c i j := by show c[i]? = c[j]?; rw [(hc.get hi).1, hj1, e]
    have := hS.goal i j hi hjn hij
    have hgi : x.Goals[i]?.getD false = x.Goals[j]?.getD false := this
    rw [hj2] at hgi
    obtain ⟨z, hz⟩ := get_some (show i < x.Goals.length by omega)
    rw [hz] at hgi ⊢
    simp at hgi
    rw [hgi]
  | @step v u cst w' hr ha ih =>
    intro i hi e
    obtain ⟨l, hw, he⟩ := (arc_iff hy).1 ha
    obtain ⟨p, t, hpt, hp, ht⟩ := (h.edge hv).1 he
    obtain ⟨_, _, _, e3, hpn, htn, _⟩ := edge_nat hv hpt
    simp only [Edge.mk.injEq] at e3
    have hpn' : p < x.States.toNat := by omega
    have htn' : t < x.States.toNat := by omega
    have hpi : eqL c p i := (cN_eq hc hpn' hi).1 (by omega)
    obtain ⟨t', ht', htt⟩ := (hS.sig p i hpn' hi hpi).1 l t hpt
    obtain ⟨_, _, _, e4, _, htn2, _⟩ := edge_nat hv ht'
    simp only [Edge.mk.injEq] at e4
    have htn2' : t' < x.States.toNat := by omega
    have hct : cN c t' = v := by rw [← ht]; exact ((cN_eq hc htn' htn2').2 htt).symm
    exact .step (ih t' htn2' hct) ((arc_iff hv).2 ⟨l, by rw [← h.cs]; exact hw, ht'⟩)
/-- No two states of the quotient are bisimilar. -/
theorem again_id {x y : System} (hv : VSys x) {c : List Int} {K : Nat} (hK : KOK c x.States.toNat K) (h : QRes x c K y) (hS : Stable (TSof x hv) (eqL c)) (hC : Coarse (TSof x hv) (eqL c)) (hy : VSys y) {a : List Int} (ha : IsBis (TSof y hy) a) : a.length = K ∧ ∀ i, i < K → a[i]? = some (i : Int) := by
  have hc := hK.clsOf
  have hys : y.States.toNat = K := by rw [h.s]; omega
  have hyn : (TSof y hy).n = K := hys
  have hxn : (TSof x hv).n = x.States.toNat := rfl
  have hg := hv.g
  have s1 := hv.s1
  have hR : Stable (TSof x hv) (fun i j => eqL a (cN c i) (cN c j)) := by
    refine ⟨⟨fun _ _ => rfl, fun _ _ _ _ h => Eq.symm h, fun _ _ _ _ _ _ h k => Eq.trans h k⟩, ?_, ?_⟩
    · intro i j hi hj hij
      have hgg := ha.1.goal _ _ (by rw [hyn]; exact (hc.get hi).2) (by rw [hyn]; exact (hc.get hj).2) hij
      have hgy : ∀ i, i < x.States.toNat → y.Goals[cN c i]?.getD false = x.Goals[i]?.getD false := by
        intro i hi
        rw [h.g _ (hc.get hi).2]
        obtain ⟨z, hz⟩ := get_some (show i < x.Goals.length by omega)
        rw [hz]
        simp only [Option.getD_some]
        rw [Bool.eq_iff_iff, goalB_iff]
        constructor
        · rintro ⟨j, hj1, hj2⟩
          have hjn : j < x.States.toNat := by have := (List.getElem?_eq_some_iff.1 hj1).1; rw [hK.len] at this; exact this
          have := hS.goal i j hi hjn (show c[i]? = c[j]? by rw [(hc.get hi).1, hj1])
          have e : x.Goals[i]?.getD false = x.Goals[j]?.getD false := this
          rw [hz, hj2] at e
          simpa using e
        · intro e
          exact ⟨i, (hc.get hi).1, by rw [hz, e]⟩
      show x.Goals[i]?.getD false = x.Goals[j]?.getD false
      rw [← hgy i hi, ← hgy j hj]
      exact hgg
    · have key : ∀ i j, i < x.States.toNat → j < x.States.toNat → half (TSof y hy) (eqL a) (cN c i) (cN c j) → half (TSof x hv) (fun i j => eqL a (cN c i) (cN c j)) i j := by
        intro i j hi hj hh l t he
        obtain ⟨v, hv2, hav⟩ := hh l (cN c t) ((h.edge hv).2 ⟨i, t, he, rfl, rfl⟩)
        obtain ⟨p, q, hpq, hp, hq⟩ := (h.edge hv).1 hv2
        obtain ⟨hpn, hqn⟩ := (TSof x hv).rng _ _ _ hpq
        obtain ⟨q', hq', hqq⟩ := (hS.sig p j hpn hj ((cN_eq hc hpn hj).1 hp)).1 l q hpq
        obtain ⟨_, hqn'⟩ := (TSof x hv).rng _ _ _ hq'
        refine ⟨q', hq', ?_⟩
        have : cN c q' = v := by rw [← hq]; exact ((cN_eq hc hqn hqn').2 hqq).symm
        simp only
        rw [this]
        exact hav
      intro i j hi hj hij
      have hs := ha.1.sig _ _ (by rw [hyn]; exact (hc.get hi).2) (by rw [hyn]; exact (hc.get hj).2) hij
      exact ⟨key i j hi hj hs.1, key j i hj hi hs.2⟩
  have hsub := hC _ hR
  have inj : ∀ u v, u < K → v < K → eqL a u v → u = v := by
    intro u v hu hv' huv
    obtain ⟨i, hi, hiu⟩ := hK.onto u hu
    obtain ⟨j, hj, hjv⟩ := hK.onto v hv'
    have e1 : cN c i = u := by have := (hc.get hi).1; rw [hiu] at this; simp at this; omega
    have e2 : cN c j = v := by have := (hc.get hj).1; rw [hjv] at this; simp at this; omega
    have := hsub i j hi hj (show eqL a (cN c i) (cN c j) by rw [e1, e2]; exact huv)
    have := (cN_eq hc hi hj).2 this
    omega
  have hcl := ha.2.2
  rw [hyn] at hcl
  have hrep : ∀ i, i < K → isRep (eqL a) i := fun i hi j hj hR => by have := inj j i (by omega) hi hR; omega
  have hrnk : ∀ i, i ≤ K → rnk (eqL a) i = i := by
    intro i
    induction i with
    | zero => intro _; rfl
    | succ i ih => intro hi; rw [rnk_succ, ih (by omega)]; simp [hrep i (by omega)]
  refine ⟨hcl.1, fun i hi => ?_⟩
  obtain ⟨k, h1, h2⟩ := hcl.2 i hi
  have := cls_uniq (eqL_eqv a K) hi h2 ⟨i, Nat.le_refl _, rfl, hrep i hi, rfl⟩
  rw [h1, this, hrnk i (by omega)]
theorem stable_law (x : System) : law45_ShrinkStable_p x = some true := by
  unfold law45_ShrinkStable_p
  obtain ⟨b, hb, hb2⟩ := large_ok x
  simp only [awake_ok, hb, tV, Option.bind_some, Bool.not_true, Bool.false_eq_true, if_false]
  cases b with
  | true => simp
  | false =>
    obtain ⟨g1, g2, g3, g4⟩ := hb2 rfl
    simp only [Bool.false_eq_true, if_false, Option.bind_some]
    by_cases hv : VSys x
    · have s1 := hv.s1
      have hg := hv.g
      have hs := g1 hv
      simp only [valB_iff.2 hv, Bool.not_true, Bool.false_eq_true, if_false]
      obtain ⟨⟨c, e⟩, h1, h2, h3⟩ := bisim_ok hv (by omega) (by omega)
      simp only at h2 h3
      subst h2
      have hK := h3.kok
      have hXn : (TSof x hv).n = x.States.toNat := rfl
      rw [hXn] at hK
      generalize rnk (eqL c) x.States.toNat = K at hK
      have hKn := hK.le
      have hc := hK.clsOf
      obtain ⟨⟨e, y⟩, q1, q2, q3⟩ := quot_ok hv hK
      simp only at q2 q3
      subst q2
      have hy := q3.v hv hK
      have hys : y.States.toNat = K := by rw [q3.s]; omega
      obtain ⟨⟨d, e⟩, hd, d1, d2⟩ := dist_ok hv
      obtain ⟨⟨f, e'⟩, hf, f1, f2⟩ := dist_ok hy
      obtain ⟨⟨a, e''⟩, ha, a1, a2⟩ := bisim_ok hy (by rw [q3.s]; omega) (by rw [q3.cs]; omega)
      simp only at d1 d2 f1 f2 a1 a2
      subst d1 f1 a1
      obtain ⟨al, ai⟩ := again_id hv hK q3 h3.1 h3.2.1 hy a2
      rw [h1]
      have hlen : (c.length : Int) = x.States := by rw [hK.len]; omega
      simp only [Option.bind_some, un2, Option.isSome_none, hlen, decide_true, Bool.not_true, Bool.or_self, Bool.false_eq_true, if_false, q1, hd, hf, ha]
      refine Ok.eq (Ok.ctl (fun _ _ => True) (fun _ => False) trivial ?_ (fun _ h => h.elim) ?_)
      · rintro i _ hi _
        rw [hK.len] at hi
        refine Ok.must (by simp; omega) (Ok.ctl (fun _ _ => True) (fun _ => False) trivial ?_ (fun _ h => h.elim) (fun _ _ => Ok.ret trivial))
        rintro j _ hj _
        have hji : j < i := by omega
        have hjn : j < x.States.toNat := by omega
        simp only [idx_nat, (hc.get hi).1, (hc.get hjn).1, Option.bind_some]
        by_cases e : (cN c i : Int) = (cN c j : Int)
        · have hij : eqL c i j := (cN_eq hc hi hjn).1 (by omega)
          have hag : agreeB x hv c i j = true := by
            unfold agreeB
            simp only [decide_eq_true_eq]
            exact ⟨h3.1.goal i j hi hjn hij, h3.1.sig i j hi hjn hij⟩
          simp only [e, decide_true, if_true, agree_eq hv hc hi hjn, hag, Option.bind_some, Bool.not_true, Bool.false_eq_true, if_false]
          exact Ok.ret trivial
        · simp only [e, decide_false, Bool.false_eq_true, if_false, Option.bind_some]
          exact Ok.ret trivial
      · rintro _ _
        refine Ok.ctl (fun _ _ => True) (fun _ => False) trivial ?_ (fun _ h => h.elim) ?_
        · rintro i _ hi _
          rw [hK.len] at hi
          have hci := hc.get hi
          obtain ⟨u, v, hu, hv', hle⟩ := dist_le hv hK q3 d2 f2 hi
          have heq : u = v := by
            obtain ⟨_, hr0, hr1, hr2⟩ := sp_get f2 (show cN c i < y.States.toNat by rw [hys]; exact hci.2)
            rw [hv'] at hr0; cases hr0
            by_cases hlt : v < Inf
            · obtain ⟨u', hu', hle'⟩ := d2.le (aokT hv) (reach_back hv hK q3 h3.1 (f2.re _ v hv' hlt) i hi rfl) hlt
              rw [hu] at hu'; cases hu'
              omega
            · obtain ⟨_, hs0, hs1, hs2⟩ := sp_get d2 hi
              rw [hu] at hs0; cases hs0
              omega
          subst heq
          have n1 : ¬ ((cN c i : Int) < 0) := by omega
          have n2 : ¬ ((f.length : Int) ≤ (cN c i : Int)) := by rw [f2.len, hys]; omega
          simp only [idx_nat, hci.1, hu, hv', Option.bind_some, n1, n2, decide_false, Bool.false_eq_true, if_false, decide_true, Bool.not_true]
          exact Ok.ret trivial
        · rintro _ _
          refine Ok.ctl (fun _ _ => True) (fun _ => False) trivial ?_ (fun _ h => h.elim) (fun _ _ => Ok.ret rfl)
          rintro i _ hi _
          rw [al] at hi
          simp only [idx_nat, ai i hi, Option.bind_some, decide_true, Bool.not_true, Bool.false_eq_true, if_false]
          exact Ok.ret trivial
    · simp [vnot hv]
end Go.Pw
