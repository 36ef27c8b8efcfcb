/-
  The statement on the product of all systems of variables, in plain Lean: it holds of every task.
-/
import Derived.Test.YtdhfofhginfdnaaWhWe
import Derived.Test.YtdhfofhginfdnaaWhWd
import Derived.Test.YtdhfofhginfdnaaWhG
set_option maxHeartbeats 4000000
set_option linter.unusedSimpArgs false
set_option linter.unusedVariables false
namespace Go.Pw
theorem SP.mono_le {A A' : Arcs} {s s' : Nat → Prop} {n : Nat} {l k : List Int} (hA : AOK A s n) (h : SP A s n l) (h' : SP A' s' n k) (ha : ∀ v u w, A' v u w → A v u w) (hs : ∀ i, s' i → s i) {i : Nat} {x y : Int} (hx : l[i]? = some x) (hy : k[i]? = some y) : x ≤ y := by
  have hm : ∀ {i : Nat} {c : Int}, Reach A' s' i c → Reach A s i c := by
    intro i c h
    induction h with
    | base h => exact .base (hs _ h)
    | step _ h ih => exact .step ih (ha _ _ _ h)
  by_cases hlt : y < Inf
  · obtain ⟨z, hz, hle⟩ := h.le hA (hm (h'.re i y hy hlt)) hlt
    rw [hx] at hz; cases hz; exact hle
  · have := (h.rng i x hx).2
    omega
def OwnT (t : Task) : Prop := ∀ o ∈ t.Ops, ∀ e ∈ o.Effs, ∀ f ∈ e.When, f.Var = e.Var
open Classical in
theorem own_ok (t : Task) : law44_Own_p t = some (decide (OwnT t)) := by
  unfold law44_Own_p
  rw [ctl_list (r := false) (fun o => ∀ e ∈ o.Effs, ∀ f ∈ e.When, f.Var = e.Var)]
  · by_cases h : OwnT t
    · rw [decide_eq_true h]; exact if_pos h
    · rw [decide_eq_false h]; exact if_neg h
  · intro i o ho
    simp only [idx_nat, ho, Option.bind_some]
    rw [ctl_list (r := false) (fun e => ∀ f ∈ e.When, f.Var = e.Var)]
    · split <;> rfl
    · intro j e he
      simp only [idx_nat, he, Option.bind_some]
      rw [ctl_list (r := false) (fun f => f.Var = e.Var)]
      · split <;> rfl
      · intro k f hf
        simp only [idx_nat, hf, Option.bind_some]
        by_cases h : f.Var = e.Var <;> simp [h]
section
variable {t : Task} {x : System}
theorem goalM_all (ht : GoodT t) (s : List Int) : goalM t t.Vars.length s ↔ hold t.Goal s :=
  ⟨fun h f hf => h f hf (ht.goal.r f hf).2.1, fun h f hf _ => h f hf⟩
theorem x_arc (hx : XRes t t.Vars.length x) {v u : Nat} {w : Int} : ArcOf x true v u w ↔ ∃ (s s' : List Int) (i : Nat) (o : Op), StateOK t.Vars s ∧ StateOK t.Vars s' ∧ t.Ops[i]? = some o ∧ w = o.Cost ∧ rk t.Vars s' = (v : Int) ∧ rk t.Vars s = (u : Int) ∧ XStep t o t.Vars.length s s' := by
  have he := hx.e
  rw [List.take_length] at he
  unfold ArcOf
  simp only [if_true]
  constructor
  · rintro ⟨d, hd, l, hl, hc, h1, h2⟩
    obtain ⟨s, s', i, o, hs, hs', ho, rfl, hst⟩ := (he d).1 hd
    simp only at hl h1 h2
    obtain rfl : i = l := by omega
    rw [hx.c, List.getElem?_map, ho] at hc
    exact ⟨s, s', i, o, hs, hs', ho, (Zu hc).symm, h1, h2, hst⟩
  · rintro ⟨s, s', i, o, hs, hs', ho, rfl, h1, h2, hst⟩
    exact ⟨_, (he _).2 ⟨s, s', i, o, hs, hs', ho, rfl, hst⟩, i, rfl, by rw [hx.c, List.getElem?_map, ho]; rfl, h1, h2⟩
theorem ba_sub (ht : SmallT t) (hx : XRes t t.Vars.length x) {v u : Nat} {w : Int} (h : BA t v u w) : ArcOf x true v u w := by
  obtain ⟨s, i, o, hs, ho, hp, rfl, h1, h2⟩ := h
  have hop := ht.g.op o (List.mem_of_getElem? ho)
  have haok := applyL_ok hs (effs := o.Effs) fun e he => (hop.eff e he).2
  refine (x_arc hx).2 ⟨s, applyL o.Effs s, i, o, hs, haok, ho, rfl, h1, h2, fun w a b hw ha hb => ?_⟩
  have hat := applyL_at hs (v := (w : Int)) (by omega) (by omega) (effs := o.Effs) fun e he => (hop.eff e he).2
  rw [Int.toNat_natCast, hb] at hat
  exact ⟨s, hs, by rw [Int.toNat_natCast]; exact ha, hp, Zu hat⟩
theorem bsrc_iff (ht : SmallT t) (hx : XRes t t.Vars.length x) (i : Nat) : bsrc t i ↔ gsrc x i := by
  have hv1 : ∀ n ∈ t.Vars, 1 ≤ n := fun n hn => (ht.g.v n hn).1
  have hg := hx.g
  have hxs := hx.s
  rw [List.take_length] at hg hxs
  constructor
  · rintro ⟨s, hs, h1, h2⟩
    obtain ⟨b, hb, hb2⟩ := hg s hs
    rw [h1, Int.toNat_natCast] at hb
    unfold gsrc
    rw [hb, hb2.2 ((goalM_all ht.g s).2 h2)]
  · intro h
    unfold gsrc at h
    have hlt := (List.getElem?_eq_some_iff.1 h).1
    have hgl := hx.v.g
    have hL := statesL_len (vars := t.Vars) fun x hx => by have := ht.g.v x hx; omega
    obtain ⟨s, hs⟩ := get_len (xs := statesL t.Vars) (i := i) (by omega)
    have hok := statesL_mem.1 (List.mem_of_getElem? hs)
    have hr := rk_at hv1 hs
    obtain ⟨b, hb, hb2⟩ := hg s hok
    rw [hr, Int.toNat_natCast, h] at hb
    exact ⟨s, hok, hr, (goalM_all ht.g s).1 (hb2.1 (Zu hb).symm)⟩
theorem own_sub (ht : SmallT t) (hx : XRes t t.Vars.length x) (hown : OwnT t) {v u : Nat} {w : Int} (h : ArcOf x true v u w) : BA t v u w := by
  obtain ⟨s, s', i, o, hs, hs', ho, rfl, h1, h2, hst⟩ := (x_arc hx).1 h
  have hom := List.mem_of_getElem? ho
  have hop := ht.g.op o hom
  have haok := applyL_ok hs (effs := o.Effs) fun e he => (hop.eff e he).2
  have hpre : hold o.Pre s := by
    intro f hf
    have hr := hop.pre.r f hf
    obtain ⟨a, ha, _⟩ := hs.at hr.1 hr.2.1
    obtain ⟨b, hb, _⟩ := hs'.at hr.1 hr.2.1
    obtain ⟨σ, s1, s2, s3, _⟩ := hst f.Var.toNat a b (by have := hr.1; have := hr.2.1; omega) ha hb
    have := s3 f hf
    rw [Int.toNat_natCast] at s2
    rw [s2] at this
    rw [ha, this]
  refine ⟨s, i, o, hs, ho, hpre, rfl, ?_, h2⟩
  have : applyL o.Effs s = s' := by
    apply List.ext_getElem?
    intro w
    by_cases hw : w < t.Vars.length
    · have hat := applyL_at hs (v := (w : Int)) (by omega) (by omega) (effs := o.Effs) fun e he => (hop.eff e he).2
      rw [Int.toNat_natCast] at hat
      obtain ⟨a, ha⟩ := get_len (xs := s) (i := w) (by rw [hs.len]; exact hw)
      obtain ⟨b, hb⟩ := get_len (xs := s') (i := w) (by rw [hs'.len]; exact hw)
      obtain ⟨σ, s1, s2, s3, s4⟩ := hst w a b hw ha hb
      rw [Int.toNat_natCast] at s2
      rw [hat, hb, s4]
      congr 1
      refine effV_congr (by rw [Int.toNat_natCast, ha, s2]) fun e he hev => ?_
      have hsame : ∀ f ∈ e.When, s[f.Var.toNat]? = σ[f.Var.toNat]? := by
        intro f hf
        rw [hown o hom e he f hf, hev, Int.toNat_natCast, ha, s2]
      constructor
      · intro h f hf; rw [← hsame f hf]; exact h f hf
      · intro h f hf; rw [hsame f hf]; exact h f hf
    · rw [List.getElem?_eq_none (by rw [haok.len]; omega), List.getElem?_eq_none (by rw [hs'.len]; omega)]
  rw [this]
  exact h1
end
theorem law_ok (t : Task) (hn : ∀ o ∈ t.Ops, o.Name.size ≤ maxLen) : law44_TransysWhole_p t = some true := by
  classical
  have hn' : ∀ o ∈ t.Ops, o.Name.size ≤ 9223372036854775807 := hn
  unfold law44_TransysWhole_p
  simp only [awake_ok, Option.bind_some, Bool.not_true, Bool.false_eq_true, if_false, small_ok]
  by_cases h1 : SmallT t
  rotate_left
  · simp [h1]
  by_cases h2 : (t.Vars.length : Int) = 0
  · simp [h1, h2]
  simp only [h1, h2, decide_true, decide_false, Bool.not_true, Bool.false_eq_true, if_false]
  obtain ⟨m, hm, hm2⟩ := many_ok h1.g.v (most := 100) (by omega) (by omega)
  rw [hm]
  simp only [Option.bind_some]
  by_cases h3 : 100 < m
  · simp [h3]
  have hp : prd t.Vars ≤ 100 := by omega
  by_cases h4 : 8 < (t.Ops.length : Int)
  · simp [h3, h4]
  simp only [h3, h4, decide_false, Bool.false_eq_true, if_false, Option.bind_some]
  have hv1 : ∀ n ∈ t.Vars, 1 ≤ n := fun n hn => (h1.g.v n hn).1
  have hpp := prd_pos hv1
  have hat : ∀ v : Int, 0 ≤ v → v < (t.Vars.length : Int) → ∃ x, transys_Atomic_p t v = some (none, x) ∧ AtomRes t v x := by
    intro v h0 h1'
    obtain ⟨⟨e, x⟩, hr, g1, _⟩ := atomic_ok (t := t) (v := v) hn'
    rcases g1 ⟨h1.g, h0, h1'⟩ with ⟨h, hx⟩ | ⟨_, _, hno⟩
    · simp only at h hx
      subst h
      exact ⟨x, hr, hx⟩
    · exact absurd (h1.room h0 h1') hno
  obtain ⟨x0, hr0, hx0⟩ := hat 0 (Int.le_refl _) (by omega)
  rw [hr0]
  simp only [Option.bind_some, un2]
  refine Ok.eq ?_
  refine Ok.while (fun q : Option Int × Int × Int × Int × List Int × List Edge × List Bool => q.1 = none ∧ ∃ m : Nat, q.2.1 = (m : Int) ∧ 1 ≤ m ∧ m ≤ t.Vars.length ∧ XRes t m ⟨q.2.2.1, q.2.2.2.1, q.2.2.2.2.1, q.2.2.2.2.2.1, q.2.2.2.2.2.2⟩)
    (fun q : Option Int × Int × Int × Int × List Int × List Edge × List Bool => q.1 = none ∧ XRes t t.Vars.length ⟨q.2.2.1, q.2.2.2.1, q.2.2.2.2.1, q.2.2.2.2.2.1, q.2.2.2.2.2.2⟩) (fun _ => False) (fun q => t.Vars.length - q.2.1.toNat) ⟨rfl, 1, rfl, Nat.le_refl _, by omega, x_first h1 (by omega) hx0⟩ ?_ (fun _ h => h.elim) ?_
  · rintro ⟨e, v, z1, z2, z3, z4, z5⟩ ⟨he, m, hv, hm1, hm2, hx⟩
    simp only at he hv hx
    subst he hv
    by_cases hlt : (m : Int) < (t.Vars.length : Int)
    · obtain ⟨y, hry, hy⟩ := hat (m : Int) (by omega) hlt
      obtain ⟨⟨e, z⟩, hrz, hz1, hz2⟩ := x_prod h1 (by omega) hp (by omega) hx hy
      simp only at hz1 hz2
      subst hz1
      refine ⟨.next (none, ((m + 1 : Nat) : Int), z.States, z.Init, z.Costs, z.Edges, z.Goals), ?_, fun s' e => ?_, by simp, by simp⟩
      · have hw : IntKind.i64.wrap ((m : Int) + 1) = ((m + 1 : Nat) : Int) := by
          have := h1.nv
          rw [wrap_id (by omega) (by omega)]; omega
        simp only [un7, hlt, decide_true, Option.isNone_none, Bool.and_self, if_true, hry, Option.bind_some, un2, hrz, un6, hw]
      · cases e
        refine ⟨⟨rfl, m + 1, rfl, by omega, by omega, ?_⟩, by simp only; omega⟩
        cases z
        exact hz2
    · obtain rfl : m = t.Vars.length := by omega
      refine ⟨.brk (none, (t.Vars.length : Int), z1, z2, z3, z4, z5), ?_, by simp, fun s' e => by cases e; exact ⟨rfl, hx⟩, by simp⟩
      simp only [un7, hlt, decide_false, Bool.false_and, Bool.false_eq_true, if_false]
  · rintro ⟨e, v, z1, z2, z3, z4, z5⟩ ⟨he, hx⟩
    simp only at he hx
    subst he
    simp only [un7, Option.isSome_none, Bool.false_eq_true, if_false]
    generalize (⟨z1, z2, z3, z4, z5⟩ : System) = x at *
    obtain ⟨⟨d, e⟩, hd, hd1, hd2⟩ := dist_ok hx.v
    simp only at hd1 hd2
    subst hd1
    obtain ⟨k, hk, hk2⟩ := bdist_ok h1
    have hxs := hx.s
    rw [List.take_length] at hxs
    rw [hxs] at hd2
    rw [hd]
    simp only [Option.bind_some, un2, hk]
    have hl1 := hd2.len
    have hl2 := hk2.len
    have hAx : AOK (ArcOf x true) (gsrc x) (prd t.Vars).toNat := by
      have := hx.v.ws.aok true (src := gsrc x) fun i hi => by
        have := (List.getElem?_eq_some_iff.1 hi).1
        have := hx.v.g
        omega
      rwa [hxs] at this
    have hkey : ∀ (i : Nat) (a b : Int), d[i]? = some a → k[i]? = some b → a ≤ b ∧ (OwnT t → a = b) := by
      intro i a b ha hb
      have h5 : a ≤ b := SP.mono_le hAx hd2 hk2 (fun v u w => ba_sub h1 hx) (fun i h => (bsrc_iff h1 hx i).1 h) ha hb
      refine ⟨h5, fun hown => ?_⟩
      have h6 : b ≤ a := SP.mono_le (ba_aok h1) hk2 hd2 (fun v u w => own_sub h1 hx hown) (fun i h => (bsrc_iff h1 hx i).2 h) hb ha
      omega
    have hll : (d.length : Int) = (k.length : Int) := by omega
    simp only [Option.isSome_none, hll, decide_true, Bool.not_true, Bool.or_self, Bool.false_eq_true, if_false]
    have hnat : (k.length : Nat) = d.length := by omega
    rw [ctl_all (p := fun _ => true) (r := false)]
    · refine Ok.of (a := true) ?_ rfl
      simp
    · intro i hi
      obtain ⟨a, ha⟩ := get_len (xs := d) (i := i) hi
      obtain ⟨b, hb⟩ := get_len (xs := k) (i := i) (by omega)
      obtain ⟨q1, q2⟩ := hkey i a b ha hb
      have q3 : ¬ b < a := by omega
      simp only [idx_nat, ha, hb, Option.bind_some, q3, decide_false, Bool.false_eq_true, if_false, own_ok]
      by_cases hown : OwnT t
      · simp [hown, q2 hown]
      · simp [hown]
end Go.Pw
