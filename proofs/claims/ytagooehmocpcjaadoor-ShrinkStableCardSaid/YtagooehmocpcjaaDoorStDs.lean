/-
  Distances in a quotient, and that it simulates the system, in plain Lean.
-/
import Derived.Test.YtagooehmocpcjaaDoorStQt
import Derived.Test.YtagooehmocpcjaaDoorStG
set_option maxHeartbeats 4000000
set_option maxRecDepth 100000
set_option linter.unusedSimpArgs false
set_option linter.unusedVariables false
namespace Go.Pw
theorem Equal_eq (xs ys : List Int) : slices_Equal___int_int__p xs ys = some (decide (xs = ys)) := ints_gen xs ys
theorem arc_iff {x : System} (hv : VSys x) {v u : Nat} {w : Int} : ArcOf x true v u w ↔ ∃ l : Nat, x.Costs[l]? = some w ∧ edgeN x u l v := by
  unfold ArcOf
  constructor
  · rintro ⟨d, hd, l, hl, hw, h⟩
    simp only [if_true] at h
    refine ⟨l, hw, ?_⟩
    unfold edgeN
    obtain ⟨f, lb, t⟩ := d
    simp only at hl h
    rw [← hl, ← h.1, ← h.2]
    exact hd
  · rintro ⟨l, hw, he⟩
    exact ⟨_, he, l, rfl, hw, by simp⟩
theorem reach_map {x y : System} (hv : VSys x) {c : List Int} {K : Nat} (hK : KOK c x.States.toNat K) (h : QRes x c K y) {i : Nat} {w : Int} (hr : Reach (ArcOf x true) (gsrc x) i w) : Reach (ArcOf y true) (gsrc y) (cN c i) w := by
  have hc := hK.clsOf
  have hy := h.v hv hK
  induction hr with
  | @base i hs =>
    have hi := (aokT hv).s i hs
    refine .base ?_
    unfold gsrc at hs ⊢
    rw [h.g _ (hc.get hi).2]
    congr 1
    exact goalB_iff.2 ⟨i, (hc.get hi).1, hs⟩
  | @step v u cst w' hr ha ih =>
    obtain ⟨l, hw, he⟩ := (arc_iff hv).1 ha
    exact .step ih ((arc_iff hy).2 ⟨l, by rw [h.cs]; exact hw, (h.edge hv).2 ⟨u, v, he, rfl, rfl⟩⟩)
theorem sp_get {A : Arcs} {src : Nat → Prop} {n : Nat} {l : List Int} (h : SP A src n l) {i : Nat} (hi : i < n) : ∃ v, l[i]? = some v ∧ 0 ≤ v ∧ v ≤ Inf := by
  obtain ⟨v, hv⟩ := get_some (show i < l.length by rw [h.len]; exact hi)
  have := h.rng i v hv
  exact ⟨v, hv, this.1, this.2⟩
/-- The quotient's distances are at most those of the states. -/
theorem dist_le {x y : System} (hv : VSys x) {c : List Int} {K : Nat} (hK : KOK c x.States.toNat K) (h : QRes x c K y) {d f : List Int} (hd : SP (ArcOf x true) (gsrc x) x.States.toNat d) (hf : SP (ArcOf y true) (gsrc y) y.States.toNat f) {i : Nat} (hi : i < x.States.toNat) : ∃ a b, d[i]? = some a ∧ f[cN c i]? = some b ∧ b ≤ a := by
  have hc := hK.clsOf
  have hy := h.v hv hK
  have hys : y.States.toNat = K := by rw [h.s]; omega
  obtain ⟨a, ha, ha0, ha1⟩ := sp_get hd hi
  obtain ⟨b, hb, hb0, hb1⟩ := sp_get hf (show cN c i < y.States.toNat by rw [hys]; exact (hc.get hi).2)
  refine ⟨a, b, ha, hb, ?_⟩
  by_cases hlt : a < Inf
  · obtain ⟨b', hb', hle⟩ := hf.le (aokT hy) (reach_map hv hK h (hd.re i a ha hlt)) hlt
    rw [hb] at hb'; cases hb'
    exact hle
  · omega
/-! ### binary search -/
theorem cmpE_self (e : Edge) : cmpE e e = 0 := by
  unfold cmpE
  have := (cmpI_zero e.From e.From).2 rfl
  have := (cmpI_zero e.Label e.Label).2 rfl
  have := (cmpI_zero e.To e.To).2 rfl
  simp [*]
theorem half_wrap {a b : Nat} (h : a + b ≤ 1000000) : IntKind.i64.wrap ((IntKind.u64.wrap (IntKind.i64.wrap ((a : Int) + (b : Int)))).fdiv (2 ^ 1)) = (((a + b) / 2 : Nat) : Int) := by
  have h1 : IntKind.i64.wrap ((a : Int) + (b : Int)) = ((a + b : Nat) : Int) := by rw [wrap_id (by omega) (by omega)]; simp
  have h2 : IntKind.u64.wrap ((a + b : Nat) : Int) = ((a + b : Nat) : Int) := by
    simp only [IntKind.wrap, IntKind.bits, IntKind.signed]
    simp
    omega
  have h3 : (((a + b : Nat) : Int)).fdiv (2 ^ 1) = (((a + b) / 2 : Nat) : Int) := by
    rw [Int.fdiv_eq_ediv_of_nonneg _ (by decide)]
    simp
  rw [h1, h2, h3, wrap_id (by omega) (by omega)]
theorem bs_ok {xs : List Edge} (h : Srt xs) (hl : xs.length ≤ 65536) {e : Edge} (he : e ∈ xs) : Ok (api_Edge__f44_p xs e) fun r => r.2 = true := by
  unfold api_Edge__f44_p
  obtain ⟨p, hp⟩ := List.mem_iff_getElem?.1 he
  have hpl := (List.getElem?_eq_some_iff.1 hp).1
  have srt : ∀ {a b : Nat} {u v : Edge}, a < b → xs[a]? = some u → xs[b]? = some v → EdLt u v := by
    intro a b u v hab ha hb
    have := List.pairwise_iff_getElem.1 h a b (List.getElem?_eq_some_iff.1 ha).1 (List.getElem?_eq_some_iff.1 hb).1 hab
    rw [(List.getElem?_eq_some_iff.1 ha).2, (List.getElem?_eq_some_iff.1 hb).2] at this
    exact this
  refine Ok.while (fun s : Int × Int => ∃ a b : Nat, s = ((a : Int), (b : Int)) ∧ a ≤ b ∧ b ≤ xs.length ∧ a ≤ p ∧ ∀ q u, b ≤ q → xs[q]? = some u → ¬ EdLt u e) (fun s => s.1 = (p : Int)) (fun _ => False) (fun s => (s.2 - s.1).toNat) ⟨0, xs.length, rfl, by omega, Nat.le_refl _, Nat.zero_le _, fun q u hq hu => by have := (List.getElem?_eq_some_iff.1 hu).1; omega⟩ ?_ (fun _ h => h.elim) ?_
  · rintro ⟨a', b'⟩ ⟨a, b, e1, hab, hb, hap, hge⟩
    cases e1
    simp only [un2]
    by_cases hlt : (a : Int) < (b : Int)
    · simp only [hlt, decide_true, if_true, half_wrap (show a + b ≤ 1000000 by omega)]
      have hm : (a + b) / 2 < b := by omega
      have hm2 : a ≤ (a + b) / 2 := by omega
      generalize (a + b) / 2 = m at hm hm2
      obtain ⟨u, hu⟩ := get_some (show m < xs.length by omega)
      simp only [idx_nat, hu, Option.bind_some, compare_p]
      by_cases hc : cmpE u e < 0
      · have hue := (cmpE_lt u e).1 hc
        simp only [hc, decide_true, if_true, Option.bind_some]
        rw [wrap_id (by omega) (by omega)]
        refine ⟨_, rfl, fun s' e => ?_, fun s' e => (by cases e), fun r e => (by cases e)⟩
        cases e
        have hmp : m < p := by
          rcases Nat.lt_trichotomy m p with h1 | h1 | h1
          · exact h1
          · subst h1; rw [hu] at hp; cases hp; exact absurd hue (EdLt.irrefl _)
          · exact absurd (hue.trans (srt h1 hp hu)) (EdLt.irrefl _)
        exact ⟨⟨m + 1, b, rfl, by omega, hb, by omega, hge⟩, by simp only; omega⟩
      · have hue : ¬ EdLt u e := fun h => hc ((cmpE_lt u e).2 h)
        simp only [hc, decide_false, Bool.false_eq_true, if_false, Option.bind_some]
        refine ⟨_, rfl, fun s' e => ?_, fun s' e => (by cases e), fun r e => (by cases e)⟩
        cases e
        refine ⟨⟨a, m, rfl, hm2, by omega, hap, fun q v hq hv hve => ?_⟩, by simp only; omega⟩
        rcases Nat.lt_or_ge m q with h1 | h1
        · exact hue ((srt h1 hu hv).trans hve)
        · have : q = m := by omega
          subst this
          rw [hu] at hv; cases hv
          exact hue hve
    · simp only [hlt, decide_false, Bool.false_eq_true, if_false]
      refine ⟨_, rfl, fun s' e => (by cases e), fun s' e => ?_, fun r e => (by cases e)⟩
      cases e
      have : a = b := by omega
      subst this
      simp only
      rcases Nat.lt_or_ge a p with h1 | h1
      · obtain ⟨u, hu⟩ := get_some (show a < xs.length by omega)
        exact absurd (srt h1 hu hp) (hge a u (Nat.le_refl _) hu)
      · omega
  · rintro ⟨a, b⟩ h1
    simp only at h1
    subst h1
    simp only [un2]
    have hlt : (p : Int) < (xs.length : Int) := by omega
    simp only [hlt, decide_true, if_true, idx_nat, hp, Option.bind_some, compare_p, cmpE_self]
    exact Ok.ret (by simp)
theorem sim_ok {x y : System} (hv : VSys x) {c : List Int} {K : Nat} (hK : KOK c x.States.toNat K) (h : QRes x c K y) : transys_Simulates_o_p x y c = some true := by
  have hc := hK.clsOf
  have hy := h.v hv hK
  have s1 := hv.s1; have i0 := hv.i0; have i1 := hv.i1; have hg := hv.g
  unfold transys_Simulates_o_p
  simp only [tV, valB_iff.2 hv, valB_iff.2 hy, Equal_eq, h.cs, Option.bind_some, Bool.not_true, Bool.false_eq_true, if_false, decide_true]
  have hlen : (c.length : Int) = x.States := by rw [hK.len]; omega
  simp only [hlen, decide_true, Bool.not_true, Bool.false_eq_true, if_false]
  rw [ctl_all (p := fun _ => true) (r := false) ?_]
  · rw [if_pos (by simp)]
    obtain ⟨q, hq⟩ : ∃ q : Nat, x.Init = (q : Int) := ⟨x.Init.toNat, by omega⟩
    have hci := (hc.get (i := q) (by omega)).1
    have hyi : y.Init = (cN c q : Int) := by rw [h.i, hq]; simp
    rw [hq, idx_nat, hci]
    simp only [Option.bind_some, hyi, decide_true, Bool.not_true, Bool.false_eq_true, if_false]
    rw [ctl_all (p := fun _ => true) (r := false) ?_]
    · rw [if_pos (by simp)]
    · intro j hj
      obtain ⟨d, hd⟩ := get_some hj
      obtain ⟨f, l, t, rfl, hf, ht, _⟩ := edge_nat hv (List.mem_of_getElem? hd)
      simp only [idx_nat, hd, (hc.get hf).1, (hc.get ht).1, Option.bind_some]
      obtain ⟨⟨i, b⟩, hr, hb⟩ := bs_ok h.o (by have := h.l; have := hv.e; omega) (e := ⟨(cN c f : Int), (l : Int), (cN c t : Int)⟩) ((h.e _).2 ⟨_, List.mem_of_getElem? hd, by simp [mapE]⟩)
      simp only at hb
      subst hb
      rw [hr]
      simp [un2]
  · intro j hj
    rw [hK.len] at hj
    have hcj := hc.get hj
    obtain ⟨g, hgj⟩ := get_some (show j < x.Goals.length by omega)
    have hyg := h.g _ hcj.2
    have n1 : ¬ ((cN c j : Int) < 0) := by omega
    have n2 : ¬ (y.States ≤ (cN c j : Int)) := by rw [h.s]; omega
    simp only [idx_nat, hcj.1, hgj, Option.bind_some, n1, n2, decide_false, Bool.false_eq_true, if_false, hyg]
    cases g with
    | false => simp
    | true =>
      have : goalB x c (cN c j) = true := goalB_iff.2 ⟨j, hcj.1, hgj⟩
      simp [this]
end Go.Pw
