/-
  The projection to one variable, in plain Lean: where an operator leads.
-/
import Derived.Test.YtdhfofhginfdnaaWhPj
set_option maxHeartbeats 4000000
set_option linter.unusedSimpArgs false
set_option linter.unusedVariables false
namespace Go.Pw
theorem dom_get {vars : List Int} {w : Nat} (h : w < vars.length) : vars[w]? = some (dom vars (w : Int)) := by
  obtain ⟨d, hd⟩ := get_len h
  unfold dom
  rw [Int.toNat_natCast, hd]
  rfl
theorem StateOK.at {vars s : List Int} (h : StateOK vars s) {w : Int} (h0 : 0 ≤ w) (h1 : w < (vars.length : Int)) : ∃ x, s[w.toNat]? = some x ∧ 0 ≤ x ∧ x < dom vars w := by
  obtain ⟨x, hx⟩ := get_len (xs := s) (i := w.toNat) (by rw [h.len]; omega)
  have := dom_get (vars := vars) (w := w.toNat) (by omega)
  rw [Int.toNat_of_nonneg h0] at this
  exact ⟨x, hx, h.r _ _ _ hx this⟩
theorem StateOK.set {vars s : List Int} (h : StateOK vars s) {w : Int} {x : Int} (h0 : 0 ≤ x) (h1 : x < dom vars w) : StateOK vars (s.set w.toNat x) := by
  refine ⟨by simp [h.len], fun i y d hy hd => ?_⟩
  by_cases e : w.toNat = i
  · have hlt := (List.getElem?_eq_some_iff.1 hy).1
    simp only [List.length_set] at hlt
    subst e
    rw [List.getElem?_set_self hlt] at hy
    cases hy
    unfold dom at h1
    rw [hd] at h1
    exact ⟨h0, h1⟩
  · rw [List.getElem?_set_ne e] at hy
    exact h.r i y d hy hd
/-- To what value of a variable an operator leads from another one. -/
def TB (t : Task) (o : Op) (v a b : Int) : Prop := ∃ σ, StateOK t.Vars σ ∧ σ[v.toNat]? = some a ∧ hold o.Pre σ ∧ b = effV o.Effs v σ
theorem strict_ok {l : List Int} (hl : l.length ≤ 4096) : Ok ((sortInts_p l).bind fun k => (slices_Compact___int_int__o_p k).bind <| un2 fun (n : Nat) (r : List Int) => (must (decide (n ≤ r.length))).bind fun _ => some (r.take n)) fun r => r.Pairwise (fun a b => a < b) ∧ (∀ x, x ∈ r ↔ x ∈ l) ∧ r.length ≤ l.length := by
  obtain ⟨k, hk, hp, hs⟩ := sortInts_ok (l := l) (by omega)
  rw [hk]
  simp only [Option.bind_some]
  have hlen := hp.length_eq
  obtain ⟨⟨n, r⟩, hc, h1, h2, h3⟩ := compact_ok (eq := fun a b : Int => decide (a = b)) (by simp) 0 k (by omega)
  simp only at h1 h2 h3
  have hc' : slices_Compact___int_int__o_p k = some (n, r) := hc
  rw [hc']
  simp only [Option.bind_some, un2]
  refine Ok.must (by simp; omega) (Ok.ret ?_)
  rw [h3]
  refine ⟨(dd_strict (le := fun a b => a ≤ b) (lt := fun a b => a < b) (by intro a b h hne; omega) (by intro a b c h h'; omega) (by intro a b c h h'; omega) k none hs (by simp)).1, fun x => ?_, ?_⟩
  · rw [mem_dd, hp.mem_iff]
  · have := dd_len k none
    omega
theorem targets_ok {t : Task} (ht : GoodT t) {i : Nat} {o : Op} (hi : t.Ops[i]? = some o) {v a : Int} (hv0 : 0 ≤ v) (hv1 : v < (t.Vars.length : Int)) (ha0 : 0 ≤ a) (ha1 : a < dom t.Vars v) {fr : List Int} (hfn : fr.Nodup) (hfm : ∀ w, w ∈ fr ↔ Free o v w)
    (hbig : prd (fr.map (dom t.Vars)) ≤ 4096) : Ok (project_targets_p t (i : Int) [v] fr a) fun L => L.Pairwise (fun a b => a < b) ∧ (∀ b, b ∈ L ↔ TB t o v a b) ∧ (L.length : Int) ≤ prd (fr.map (dom t.Vars)) := by
  classical
  have hop := ht.op o (List.mem_of_getElem? hi)
  have hdv := dom_pos ht.v hv0 hv1
  have hnv := ht.nv
  have hfr : ∀ w ∈ fr, 0 ≤ w ∧ w < (t.Vars.length : Int) := by
    intro w hw
    obtain ⟨_, _, e, he, _, f, hf, rfl⟩ := (hfm w).1 hw
    have := (hop.eff e he).1.r f hf
    exact ⟨this.1, this.2.1⟩
  have hfl := nodup_int_len hfn hfr
  have hfd : ∀ x ∈ fr.map (dom t.Vars), 1 ≤ x := by
    intro x hx
    obtain ⟨w, hw, rfl⟩ := List.mem_map.1 hx
    exact (dom_pos ht.v (hfr w hw).1 (hfr w hw).2).1
  have hP1 := prd_pos hfd
  have hvf : v ∉ fr := fun h => ((hfm v).1 h).1 rfl
  unfold project_targets_p
  rw [idx_nat, hi]
  simp only [Option.bind_some]
  refine Ok.step (mk_ok (by omega) (by omega)) ?_
  have hput0 : put_p t [v] (List.replicate t.Vars.length 0) a = some ((List.replicate t.Vars.length (0 : Int)).set v.toNat a) := by
    rw [put_ok ht.v (by simp [hv0, hv1]) (by simp) (by simp) ha0 (by omega)]
    simp only [List.reverse_singleton, putL]
    rw [Int.emod_eq_of_lt ha0 ha1]
  refine Ok.step hput0 ?_
  have hst0 : StateOK t.Vars (List.replicate t.Vars.length 0) := by
    refine ⟨by simp, fun j x d hx hd => ?_⟩
    have hx0 : x = 0 := by
      have := List.mem_of_getElem? hx
      exact (List.mem_replicate.1 this).2
    have := ht.v d (List.mem_of_getElem? hd)
    omega
  have hst1 : StateOK t.Vars ((List.replicate t.Vars.length (0 : Int)).set v.toNat a) := hst0.set ha0 ha1
  have hst1v : ((List.replicate t.Vars.length (0 : Int)).set v.toNat a)[v.toNat]? = some a := by rw [List.getElem?_set_self (by simp; omega)]
  refine Ok.ctl (fun j s => StateOK t.Vars s ∧ s[v.toNat]? = some a ∧ hold (o.Pre.take j) s) (fun r => r = [] ∧ ∃ x ∈ o.Pre, x.Var = v ∧ x.Val ≠ a) ⟨hst1, hst1v, by simp [hold]⟩ ?_ ?_ ?_
  · rintro j s hj ⟨g1, g2, g3⟩
    obtain ⟨x, hx⟩ := get_len hj
    have hxm := List.mem_of_getElem? hx
    have hr := hop.pre.r x hxm
    have hbef : ∀ y ∈ o.Pre.take j, y.Var < x.Var := by
      have := hop.pre.take (j + 1)
      rw [take_snoc hx] at this
      exact (FactsOK.snoc.1 this).2.2
    simp only [idx_nat, hx, Option.bind_some, contains_p, List.mem_singleton]
    by_cases h1 : x.Var = v
    · have e1 : idx s x.Var = some a := by unfold idx; rw [if_pos hr.1, h1, g2]
      simp only [h1, decide_true, if_true]
      rw [h1] at e1
      simp only [e1, Option.bind_some]
      by_cases h2 : a = x.Val
      · simp only [h2, decide_true, Bool.not_true, Bool.false_eq_true, if_false]
        refine Ok.ret ⟨g1, h2 ▸ g2, ?_⟩
        rw [take_snoc hx]
        intro y hy
        rcases List.mem_append.1 hy with hy | hy
        · exact g3 y hy
        · simp only [List.mem_singleton] at hy; subst hy; rw [h1, g2, h2]
      · simp only [h2, decide_false, Bool.not_false, if_true]
        exact Ok.ret ⟨rfl, x, hxm, h1, fun e => h2 e.symm⟩
    · obtain ⟨y, hy, _⟩ := g1.at hr.1 hr.2.1
      have e1 : idx s x.Var = some y := by unfold idx; rw [if_pos hr.1, hy]
      have hlt : x.Var.toNat < s.length := by rw [g1.len]; have := hr.1; have := hr.2.1; omega
      have e2 : setI s x.Var x.Val = some (s.set x.Var.toNat x.Val) := by unfold setI; rw [if_pos ⟨hr.1, hlt⟩]
      simp only [h1, decide_false, Bool.false_eq_true, if_false, e1, e2, Option.bind_some]
      refine Ok.ret ⟨g1.set hr.2.2.1 hr.2.2.2, ?_, ?_⟩
      · rw [List.getElem?_set_ne (by have := hr.1; omega)]; exact g2
      · rw [take_snoc hx]
        intro z hz
        rcases List.mem_append.1 hz with hz | hz
        · have := hbef z hz
          have hz0 := (hop.pre.r z (List.mem_of_mem_take hz)).1
          rw [List.getElem?_set_ne (by omega)]
          exact g3 z hz
        · simp only [List.mem_singleton] at hz; subst hz; rw [List.getElem?_set_self hlt]
  · rintro r ⟨rfl, x, hx, h1, h2⟩
    refine Ok.ret ⟨by simp, fun b => ⟨fun h => by simp at h, ?_⟩, by simp; omega⟩
    rintro ⟨σ, s1, s2, s3, _⟩
    have := s3 x hx
    rw [h1, s2] at this
    exact absurd (Zu this).symm h2
  · rintro s2 ⟨g1, g2, g3⟩
    rw [List.take_length] at g3
    obtain ⟨r, hr, hr2⟩ := count_ok ht.v hfr
    have hr3 : r = (prd (fr.map (dom t.Vars)), true) := by
      rcases hr2 with ⟨_, h⟩ | ⟨h, _⟩
      · exact h
      · omega
    subst hr3
    refine Ok.step hr ?_
    simp only [un2]
    refine Ok.must (by simp; omega) (Ok.bind ?_)
    generalize hN : (prd (fr.map (dom t.Vars))) = N at *
    have hrev : ∀ w, w ∈ fr.reverse ↔ w ∈ fr := fun w => List.mem_reverse
    have hrn : fr.reverse.Nodup := (List.reverse_perm fr).nodup_iff.2 hfn
    have hNr : prd (fr.reverse.map (dom t.Vars)) = N := by rw [← hN]; exact prd_perm ((List.reverse_perm fr).map _)
    -- what decides agrees
    have hagree : ∀ σ σ', StateOK t.Vars σ → StateOK t.Vars σ' → σ[v.toNat]? = some a → σ'[v.toNat]? = some a → hold o.Pre σ → hold o.Pre σ' → (∀ w ∈ fr, σ[w.toNat]? = σ'[w.toNat]?) → effV o.Effs v σ = effV o.Effs v σ' := by
      intro σ σ' k1 k2 k3 k4 k5 k6 k7
      refine effV_congr (by rw [k3, k4]) fun e he hev => ?_
      have hsame : ∀ f ∈ e.When, σ[f.Var.toNat]? = σ'[f.Var.toNat]? := by
        intro f hf
        by_cases c1 : f.Var = v
        · rw [c1, k3, k4]
        · by_cases c2 : ∃ x ∈ o.Pre, x.Var = f.Var
          · obtain ⟨x, hx, hxe⟩ := c2
            rw [← hxe, k5 x hx, k6 x hx]
          · exact k7 _ ((hfm _).2 ⟨c1, c2, e, he, hev, f, hf, rfl⟩)
      constructor
      · intro h f hf; rw [← hsame f hf]; exact h f hf
      · intro h f hf; rw [hsame f hf]; exact h f hf
    refine Ok.forS (fun k q => q.1.length = k ∧ StateOK t.Vars q.2 ∧ q.2[v.toNat]? = some a ∧ hold o.Pre q.2 ∧ (∀ b ∈ q.1, TB t o v a b) ∧
        ∀ σ, StateOK t.Vars σ → σ[v.toNat]? = some a → hold o.Pre σ → numL t.Vars fr.reverse (fun w => σ[w.toNat]?.getD 0) < (k : Int) → effV o.Effs v σ ∈ q.1) ?_ ?_ ?_
    · refine ⟨rfl, g1, g2, g3, by simp, ?_⟩
      intro σ k1 k2 k3 hlt
      have := (numL_lt (vars := t.Vars) (a := fun w => σ[w.toNat]?.getD 0) (r := fr.reverse) fun w hw => by
        obtain ⟨x, hx, h0, h1⟩ := k1.at (hfr w ((hrev w).1 hw)).1 (hfr w ((hrev w).1 hw)).2
        simp only [hx, Option.getD_some]; exact ⟨h0, h1⟩).1
      omega
    · rintro k ⟨out, l⟩ hk ⟨f1, f2, f3, f4, f5, f6⟩
      simp only at f1 f2 f3 f4 f5 f6
      have hkN : (k : Int) < N := by omega
      have hput : put_p t fr l (k : Int) = some (putL t.Vars fr.reverse l k) := put_ok ht.v hfr (by omega) f2.len (by omega) (by omega)
      have hprem : ∀ x ∈ fr.reverse, 0 ≤ x ∧ x.toNat < l.length ∧ 1 ≤ dom t.Vars x := by
        intro x hx
        have h := hfr x ((hrev x).1 hx)
        exact ⟨h.1, by rw [f2.len]; omega, (dom_pos ht.v h.1 h.2).1⟩
      have hout : ∀ w : Int, 0 ≤ w → w ∉ fr → (putL t.Vars fr.reverse l (k : Int))[w.toNat]? = l[w.toNat]? := by
        intro w h0 hw
        refine putL_out (fun x hx => (hprem x hx).1) ?_
        rw [Int.toNat_of_nonneg h0]
        exact fun h => hw ((hrev w).1 h)
      have hl'len : (putL t.Vars fr.reverse l (k : Int)).length = t.Vars.length := by rw [putL_len, f2.len]
      have hl'ok : StateOK t.Vars (putL t.Vars fr.reverse l (k : Int)) := by
        refine ⟨hl'len, fun j x d hx hd => ?_⟩
        have hjl := (List.getElem?_eq_some_iff.1 hd).1
        have hdj := dom_get hjl
        rw [hd] at hdj
        have hdj := Zu hdj
        by_cases hm : (j : Int) ∈ fr
        · obtain ⟨y, hy, h0, h1⟩ := putL_in (vars := t.Vars) (s := l) (k := (k : Int)) hrn hprem (j : Int) ((hrev _).2 hm)
          rw [Int.toNat_natCast, hx] at hy
          cases hy
          omega
        · have := hout (j : Int) (by omega) hm
          rw [Int.toNat_natCast] at this
          rw [this] at hx
          exact f2.r j x d hx hd
      have hl'v : (putL t.Vars fr.reverse l (k : Int))[v.toNat]? = some a := by rw [hout v hv0 hvf, f3]
      have hl'p : hold o.Pre (putL t.Vars fr.reverse l (k : Int)) := by
        intro x hx
        rw [hout x.Var (hop.pre.r x hx).1 (fun h => ((hfm _).1 h).2.1 ⟨x, hx, rfl⟩)]
        exact f4 x hx
      have hnum : ∀ σ, StateOK t.Vars σ → σ[v.toNat]? = some a → hold o.Pre σ → numL t.Vars fr.reverse (fun w => σ[w.toNat]?.getD 0) = (k : Int) → effV o.Effs v σ = effV o.Effs v (putL t.Vars fr.reverse l (k : Int)) := by
        intro σ k1 k2 k3 hnk
        refine hagree σ _ k1 hl'ok k2 hl'v k3 hl'p fun w hw => ?_
        have h := hfr w hw
        obtain ⟨x, hx, h0, h1⟩ := k1.at h.1 h.2
        have := putL_num (vars := t.Vars) (a := fun w => σ[w.toNat]?.getD 0) (s := l) hrn (fun y hy => by
          have h := hfr y ((hrev y).1 hy)
          obtain ⟨x, hx, h0, h1⟩ := k1.at h.1 h.2
          simp only [hx, Option.getD_some]
          exact ⟨h.1, by rw [f2.len]; omega, h0, h1⟩) w ((hrev w).2 hw)
        rw [hnk] at this
        rw [this, hx]
        rfl
      generalize putL t.Vars fr.reverse l (k : Int) = l' at *
      simp only [un2, hput, Option.bind_some]
      have hclone : slices_Clone___int_int__o_p l' = some l' := by
        unfold slices_Clone___int_int__o_p
        rw [app_ok (by simp; omega)]
        simp
      simp only [hclone, Option.bind_some]
      refine Ok.bind (Ok.forS (fun j m => m.length = t.Vars.length ∧ m[v.toNat]? = some (effV (o.Effs.take j) v l')) ⟨hl'len, by simp [effV, hl'v]⟩ ?_ ?_)
      · rintro j m hj ⟨e1, e2⟩
        obtain ⟨e, he⟩ := get_len hj
        have hem := List.mem_of_getElem? he
        have her := hop.eff e hem
        have her2 := her.2
        unfold InR at her2
        simp only at her2
        simp only [idx_nat, he, Option.bind_some, contains_p, List.mem_singleton]
        by_cases h1 : e.Var = v
        · simp only [h1, decide_true, if_true, tHolds_o her.1 hl'len, Option.bind_some]
          by_cases h2 : hold e.When l'
          · have i1 : idx m v = some (effV (o.Effs.take j) v l') := by unfold idx; rw [if_pos hv0, e2]
            have i2 : setI m v e.Val = some (m.set v.toNat e.Val) := by unfold setI; rw [if_pos ⟨hv0, by omega⟩]
            simp only [h2, decide_true, if_true, i1, i2, Option.bind_some]
            refine Ok.ret ⟨by simp [e1], ?_⟩
            rw [take_snoc he, effV_snoc, if_pos ⟨h1, h2⟩, List.getElem?_set_self (by omega)]
          · simp only [h2, decide_false, Bool.false_eq_true, if_false, Option.bind_some]
            refine Ok.ret ⟨e1, ?_⟩
            rw [take_snoc he, effV_snoc, if_neg (fun h => h2 h.2)]
            exact e2
        · simp only [h1, decide_false, Bool.false_eq_true, if_false, Option.bind_some]
          refine Ok.ret ⟨e1, ?_⟩
          rw [take_snoc he, effV_snoc, if_neg (fun h => h1 h.1)]
          exact e2
      · rintro m ⟨e1, e2⟩
        rw [List.take_length] at e2
        have hrange := effV_range (vars := t.Vars) hl'v ha0 ha1 (effs := o.Effs) fun e he => (hop.eff e he).2
        rw [number1_o ht.v hv0 hv1 e2 hrange.1 (by omega)]
        simp only [Option.bind_some]
        rw [app_ok (by simp only [List.length_singleton]; omega)]
        refine Ok.ret ⟨by simp [f1], hl'ok, hl'v, hl'p, fun b hb => ?_, fun σ k1 k2 k3 hlt => ?_⟩
        · rcases List.mem_append.1 hb with hb | hb
          · exact f5 b hb
          · simp only [List.mem_singleton] at hb
            exact ⟨l', hl'ok, hl'v, hl'p, hb⟩
        · by_cases hlt' : numL t.Vars fr.reverse (fun w => σ[w.toNat]?.getD 0) < (k : Int)
          · exact List.mem_append_left _ (f6 σ k1 k2 k3 hlt')
          · refine List.mem_append_right _ ?_
            rw [hnum σ k1 k2 k3 (by omega)]
            simp
    · rintro ⟨out, l⟩ ⟨f1, f2, f3, f4, f5, f6⟩
      simp only at f1 f2 f3 f4 f5 f6
      refine Ok.mono (strict_ok (l := out) (by omega)) ?_
      rintro L ⟨h1, h2, h3⟩
      refine ⟨h1, fun b => ?_, by omega⟩
      rw [h2]
      constructor
      · exact f5 b
      · rintro ⟨σ, k1, k2, k3, rfl⟩
        refine f6 σ k1 k2 k3 ?_
        have := (numL_lt (vars := t.Vars) (a := fun w => σ[w.toNat]?.getD 0) (r := fr.reverse) fun w hw => by
          obtain ⟨x, hx, h0, h1⟩ := k1.at (hfr w ((hrev w).1 hw)).1 (hfr w ((hrev w).1 hw)).2
          simp only [hx, Option.getD_some]; exact ⟨h0, h1⟩).2
        rw [hNr] at this
        omega
end Go.Pw
