/-
  The statement on trimmed systems, in plain Lean: it holds of every system.
-/
import Derived.Test.YtdhfofhginfdnaaTrM
import Derived.Test.YtdhfofhginfdnaaTrU
set_option maxHeartbeats 4000000
set_option linter.unusedSimpArgs false
set_option linter.unusedVariables false
namespace Go.Pw
def keepOf (x : System) (c d : List Int) (i : Nat) : Bool := decide ((i : Int) = x.Init) || (decide (c.getD i 0 < Inf) && decide (d.getD i 0 < Inf))
def toL (keep : Nat → Bool) (n : Nat) : List Int := (List.range n).map (toF keep)
theorem toL_get {keep : Nat → Bool} {n i : Nat} (h : i < n) : (toL keep n)[i]? = some (toF keep i) := by simp [toL, h]

theorem edges_loop {x : System} (hv : VSys x) {keep : Nat → Bool} {to : List Int} (hto : ∀ j, j < x.States.toNat → to[j]? = some (toF keep j)) :
    forS (fun i30927 => fun (z31268 : (List Edge)) => (idx x.Edges (i30927 : Int)).bind fun x31635 =>
    ((idx to x31635.From).bind fun x31665 =>
    if decide (0 ≤ x31665) then ((idx to x31635.To).bind fun x31673 =>
    some (decide (0 ≤ x31673)))
    else (some false)).bind (fun (z31662 : Bool) => (if z31662 then ((idx to x31635.From).bind fun x31893 =>
    (idx to x31635.To).bind fun x31900 =>
    (app 24 z31268 [(⟨x31893, x31635.Label, x31900⟩ : Edge)]).bind fun l31910 =>
    some l31910)
    else (some z31268)).bind (fun (l31812 : (List Edge)) => some l31812))) (x.Edges.length) 0 [] = some (x.Edges.flatMap (edgeT keep)) := by
  have := forS_list x.Edges (edgeT keep) (s0 := []) (B := fun i30927 => fun (z31268 : (List Edge)) => (idx x.Edges (i30927 : Int)).bind fun x31635 =>
    ((idx to x31635.From).bind fun x31665 =>
    if decide (0 ≤ x31665) then ((idx to x31635.To).bind fun x31673 =>
    some (decide (0 ≤ x31673)))
    else (some false)).bind (fun (z31662 : Bool) => (if z31662 then ((idx to x31635.From).bind fun x31893 =>
    (idx to x31635.To).bind fun x31900 =>
    (app 24 z31268 [(⟨x31893, x31635.Label, x31900⟩ : Edge)]).bind fun l31910 =>
    some l31910)
    else (some z31268)).bind (fun (l31812 : (List Edge)) => some l31812))) ?_
  · simpa using this
  intro i e s he hs
  obtain ⟨f, t, lb, rfl, hf, ht, _⟩ := hv.ws.edge e (List.mem_of_getElem? he)
  have hel := hv.e
  have hsl : s.length ≤ 65536 := by
    rw [hs, List.nil_append]
    refine Nat.le_trans (flat_le (M := 1) (by intro e _; unfold edgeT; split <;> simp)) ?_
    simp; omega
  simp only [idx_nat, he, hto f hf, hto t ht, Option.bind_some]
  have e1 : (f : Int).toNat = f := by omega
  have e2 : (t : Int).toNat = t := by omega
  unfold edgeT
  simp only [e1, e2]
  cases hkf : keep f with
  | false =>
    have : ¬ 0 ≤ toF keep f := fun h => by have := (toF_nonneg keep).1 h; rw [hkf] at this; cases this
    simp [this]
  | true =>
    have h1 : 0 ≤ toF keep f := (toF_nonneg keep).2 hkf
    cases hkt : keep t with
    | false =>
      have : ¬ 0 ≤ toF keep t := fun h => by have := (toF_nonneg keep).1 h; rw [hkt] at this; cases this
      simp [h1, this]
    | true =>
      have h2 : 0 ≤ toF keep t := (toF_nonneg keep).2 hkt
      simp only [h1, h2, decide_true, if_true, Option.bind_some, Bool.and_true]
      rw [app_ok (by simp; omega)]
      rfl

theorem kept_le (keep : Nat → Bool) (i : Nat) : (kept keep i).length ≤ i := by
  have : (kept keep i).length ≤ (List.range i).length := List.length_filter_le _ _
  simpa using this

theorem trim_ok {x : System} (hv : VSys x) : ∃ c d, SP (ArcOf x true) (gsrc x) x.States.toNat d ∧ SP (ArcOf x false) (fun i => (i : Int) = x.Init) x.States.toNat c ∧
    transys_Trim_p x = some (toL (keepOf x c d) x.States.toNat, none, trimS (keepOf x c d) x) := by
  have s1 := hv.s1; have s2 := hv.s2; have i0 := hv.i0; have i1 := hv.i1; have hg := hv.g; have hcl := hv.c
  obtain ⟨k, hk⟩ : ∃ k : Nat, x.Init = (k : Int) := ⟨x.Init.toNat, by omega⟩
  obtain ⟨c, hc, hcs⟩ := shortest_ok hv.ws false (S := [k]) (by simp) (by simp; omega)
  have hcs' : SP (ArcOf x false) (fun i => (i : Int) = x.Init) x.States.toNat c := hcs.congr fun i => by simp; omega
  obtain ⟨gl, hgl, S, rfl, h1, h2, h3⟩ := goals_ok hv.ws
  obtain ⟨d, hd, hds⟩ := shortest_ok hv.ws true h1 h2
  have hds' := hds.congr h3
  refine ⟨c, d, hds', hcs', ?_⟩
  generalize hkeep : keepOf x c d = keep
  have hI : (Inf : Int) = 1125899906842624 := rfl
  unfold transys_Trim_p
  have e0 : ([x.Init] : List Int) = ints [k] := by rw [hk]; rfl
  have hclone : slices_Clone___int_int__p x.Costs = some x.Costs := by
    unfold slices_Clone___int_int__p
    rw [app_ok (by simp; omega)]
    simp
  simp only [tV, valB_iff.2 hv, Option.bind_some, Bool.not_true, Bool.false_eq_true, if_false]
  rw [e0, hc, hgl]
  simp only [Option.bind_some]
  rw [hd, hclone]
  simp only [Option.bind_some]
  obtain ⟨n, hn⟩ : ∃ n : Nat, x.States = (n : Int) := ⟨x.States.toNat, by omega⟩
  have hnn : x.States.toNat = n := by omega
  refine Ok.eq ?_
  have hmk : mk 8 (0 : Int) x.States = some (List.replicate n 0) := by rw [hn]; exact mk_ok (by omega) (by omega)
  refine Ok.step hmk (Ok.bind ?_)
  refine Ok.forS (fun i s => s.1 = (rank keep i : Int) ∧ s.2.1 = (kept keep i).map (fun i => x.Goals.getD i false) ∧ s.2.2.length = n ∧ ∀ j, j < i → s.2.2[j]? = some (toF keep j)) ?_ ?_ ?_
  · exact ⟨rfl, rfl, by simp, by simp⟩
  · rintro i ⟨z, gs, to⟩ hi ⟨g1, g2, g3, g4⟩
    simp only at g1 g2 g3 g4
    have hin : i < n := by simpa using hi
    obtain ⟨y, hy⟩ := get_len (xs := to) (i := i) (by omega)
    obtain ⟨a, ha⟩ := get_len (xs := c) (i := i) (by rw [hcs.len]; omega)
    obtain ⟨b, hb⟩ := get_len (xs := d) (i := i) (by rw [hds.len]; omega)
    obtain ⟨g, hgi⟩ := get_len (xs := x.Goals) (i := i) (by omega)
    have hkl := kept_le keep i
    have hti : (to.set i (-1))[i]? = some (-1) := by simp [g3, hin]
    have hki : keep i = (decide ((i : Int) = x.Init) || (decide (a < Inf) && decide (b < Inf))) := by rw [← hkeep]; simp [keepOf, ha, hb]
    simp only [un3, idx_nat, hy, ha, hb, Option.bind_some, setI_nat (show i < to.length by omega)]
    have htest : (if decide ((i : Int) = x.Init) = true then some true else if decide (a < 1125899906842624) = true then some (decide (b < 1125899906842624)) else some false) = some (keep i) := by
      rw [hki]
      by_cases h1 : (i : Int) = x.Init
      · simp [h1]
      · by_cases h2 : a < Inf
        · simp [h1, h2]
        · simp [h1, h2]
    rw [htest]
    simp only [Option.bind_some]
    cases hkk : keep i with
    | true =>
      have hra : rank keep i ≤ i := kept_le keep i
      simp only [if_true, idx_nat, hti, hgi, Option.bind_some, setI_nat (show i < (to.set i (-1)).length by simp; omega)]
      rw [app_ok (show (gs.length + [g].length) * 1 ≤ 140737488355328 by rw [g2]; simp; omega)]
      simp only [Option.bind_some, un3]
      have hw : IntKind.i64.wrap (z + 1) = z + 1 := wrap_id (by omega) (by omega)
      refine Ok.ret ⟨?_, ?_, by simp [g3], fun j hj => ?_⟩
      · show IntKind.i64.wrap (z + 1) = _
        rw [hw, g1, rank_succ, hkk]
        simp
      · simp only [g2, kept_succ, hkk, if_true, List.map_append]
        simp [hgi]
      · simp only [List.set_set]
        by_cases e : j = i
        · subst e
          simp [g3, hin, toF, hkk, g1]
        · rw [List.getElem?_set_ne (Ne.symm e)]
          exact g4 j (by omega)
    | false =>
      simp only [Bool.false_eq_true, if_false, Option.bind_some, un3]
      refine Ok.ret ⟨?_, ?_, by simp [g3], fun j hj => ?_⟩
      · simp only [g1, rank_succ, hkk, Bool.false_eq_true, if_false]; omega
      · simp only [g2, kept_succ, hkk, Bool.false_eq_true, if_false, List.append_nil]
      · by_cases e : j = i
        · subst e
          simp [g3, hin, toF, hkk]
        · simp only
          rw [List.getElem?_set_ne (Ne.symm e)]
          exact g4 j (by omega)
  · rintro ⟨z, gs, to⟩ ⟨g1, g2, g3, g4⟩
    simp only [List.length_replicate] at g1 g2 g3 g4
    have hto : ∀ j, j < x.States.toNat → to[j]? = some (toF keep j) := fun j hj => g4 j (by omega)
    have hkn : k < n := by omega
    have hik : idx to x.Init = some (toF keep k) := by rw [hk, idx_nat]; exact hto k (by omega)
    simp only [un3, hik, Option.bind_some]
    rw [edges_loop hv hto]
    simp only [Option.bind_some]
    have hk0 : x.Init.toNat = k := by omega
    have htl : to = toL keep x.States.toNat := by
      apply List.ext_getElem?
      intro j
      by_cases hj : j < x.States.toNat
      · rw [hto j hj, toL_get hj]
      · rw [List.getElem?_eq_none (by omega), List.getElem?_eq_none (by simp [toL]; omega)]
    refine Ok.ret ?_
    rw [htl]
    simp only [Prod.mk.injEq, true_and]
    unfold trimS
    rw [g1, g2, hnn, hk0]

theorem refTrim_ok {x : System} (hv : VSys x) {c d : List Int} (hd : SP (ArcOf x true) (gsrc x) x.States.toNat d) (hc : SP (ArcOf x false) (fun i => (i : Int) = x.Init) x.States.toNat c) :
    ref44_Trim_p x = some (toL (keepOf x c d) x.States.toNat, trimS (keepOf x c d) x) := by
  have s1 := hv.s1; have s2 := hv.s2; have i0 := hv.i0; have i1 := hv.i1; have hg := hv.g; have hcl := hv.c
  obtain ⟨d', hd', hds⟩ := refDist_ok hv.ws
  obtain ⟨c', hc', hcs⟩ := refCosts_ok hv
  have e1 := hds.uniq (aokT hv) hd
  have e2 := hcs.uniq (aokF hv) hc
  subst e1 e2
  generalize hkeep : keepOf x c' d' = keep
  have hI : (Inf : Int) = 1125899906842624 := rfl
  obtain ⟨k, hk⟩ : ∃ k : Nat, x.Init = (k : Int) := ⟨x.Init.toNat, by omega⟩
  obtain ⟨n, hn⟩ : ∃ n : Nat, x.States = (n : Int) := ⟨x.States.toNat, by omega⟩
  have hnn : x.States.toNat = n := by omega
  unfold ref44_Trim_p
  rw [hd', hc']
  simp only [Option.bind_some]
  refine Ok.eq (Ok.step (app_ok (by simp; omega)) (Ok.bind ?_))
  refine Ok.forS (fun i s => s.1 = (List.range i).map (toF keep) ∧ s.2.1 = (rank keep i : Int) ∧ s.2.2 = (kept keep i).map (fun i => x.Goals.getD i false)) ?_ ?_ ?_
  · exact ⟨rfl, rfl, rfl⟩
  · rintro i ⟨to, z, gs⟩ hi ⟨g1, g2, g3⟩
    simp only at g1 g2 g3
    have hin : i < n := by rw [hds.len] at hi; omega
    obtain ⟨a, ha⟩ := get_len (xs := c') (i := i) (by rw [hcs.len]; omega)
    obtain ⟨b, hb⟩ := get_len (xs := d') (i := i) (by rw [hds.len]; omega)
    obtain ⟨g, hgi⟩ := get_len (xs := x.Goals) (i := i) (by omega)
    have ra := hcs.rng i a ha
    have rb := hds.rng i b hb
    have hkl := kept_le keep i
    have hra : rank keep i ≤ i := kept_le keep i
    have hki : keep i = (decide ((i : Int) = x.Init) || (decide (a < Inf) && decide (b < Inf))) := by rw [← hkeep]; simp [keepOf, ha, hb]
    simp only [un3, idx_nat, ha, hb, Option.bind_some]
    have htest : (if (!decide ((i : Int) = x.Init)) = true then if decide (b = 1125899906842624) = true then some true else some (decide (a = 1125899906842624)) else some false) = some (!keep i) := by
      rw [hki]
      by_cases h1 : (i : Int) = x.Init
      · simp [h1]
      · by_cases h2 : b = 1125899906842624
        · have h3 : ¬ b < Inf := by omega
          simp [h1, h2, h3]
        · have h3 : b < Inf := by omega
          by_cases h4 : a = 1125899906842624
          · have h5 : ¬ a < Inf := by omega
            simp [h1, h2, h3, h4, h5]
          · have h5 : a < Inf := by omega
            simp [h1, h2, h3, h4, h5]
    rw [htest]
    simp only [Option.bind_some]
    have hal : ∀ y : Int, app 8 to [y] = some (to ++ [y]) := fun y => app_ok (by rw [g1]; simp; omega)
    cases hkk : keep i with
    | true =>
      simp only [Bool.not_true, Bool.false_eq_true, if_false, hal, hgi, Option.bind_some]
      rw [app_ok (show (gs.length + [g].length) * 1 ≤ 140737488355328 by rw [g3]; simp; omega)]
      have hw : IntKind.i64.wrap (z + 1) = z + 1 := wrap_id (by omega) (by omega)
      refine Ok.ret ⟨?_, ?_, ?_⟩
      · simp only [g1, List.range_succ, List.map_append, List.map_cons, List.map_nil]
        congr 1
        simp [toF, hkk, g2]
      · show IntKind.i64.wrap (z + 1) = _
        rw [hw, g2, rank_succ, hkk]
        simp
      · simp only [g3, kept_succ, hkk, if_true, List.map_append]
        simp [hgi]
    | false =>
      simp only [Bool.not_false, if_true, hal, Option.bind_some]
      refine Ok.ret ⟨?_, ?_, ?_⟩
      · simp only [g1, List.range_succ, List.map_append, List.map_cons, List.map_nil]
        congr 1
        simp [toF, hkk]
      · simp only [g2, rank_succ, hkk, Bool.false_eq_true, if_false]; omega
      · simp only [g3, kept_succ, hkk, Bool.false_eq_true, if_false, List.append_nil]
  · rintro ⟨to, z, gs⟩ ⟨g1, g2, g3⟩
    have hdl : d'.length = n := by rw [hds.len]; exact hnn
    simp only [hdl] at g1 g2 g3
    have htl : to = toL keep x.States.toNat := by rw [g1, hnn]; rfl
    have hto : ∀ j, j < x.States.toNat → to[j]? = some (toF keep j) := fun j hj => by rw [htl]; exact toL_get hj
    have hik : idx to x.Init = some (toF keep k) := by rw [hk, idx_nat]; exact hto k (by omega)
    simp only [un3, hik, Option.bind_some]
    rw [edges_loop hv hto]
    simp only [Option.bind_some]
    have hk0 : x.Init.toNat = k := by omega
    refine Ok.ret ?_
    rw [htl]
    simp only [Prod.mk.injEq, true_and, List.nil_append]
    unfold trimS
    rw [g2, g3, hnn, hk0]

theorem law_ok (x : System) : law44_TransysTrims_p x = some true := by
  unfold law44_TransysTrims_p
  obtain ⟨b, hb, _⟩ := large_ok x
  simp only [awake_ok, hb, rV, Option.bind_some, Bool.not_true, Bool.false_eq_true, if_false]
  cases b with
  | true => simp
  | false =>
    simp only [Bool.false_eq_true, if_false, Option.bind_some]
    by_cases hv : VSys x
    · have v := valB_iff.2 hv
      simp only [v, Bool.not_true, Bool.false_eq_true, if_false]
      obtain ⟨c, d, hd, hc, ht⟩ := trim_ok hv
      have hr := refTrim_ok hv hd hc
      generalize hkeep : keepOf x c d = keep at ht hr
      have i0 := hv.i0; have i1 := hv.i1
      have hk : ∀ i, i < x.States.toNat → (keep i = true ↔ (i : Int) = x.Init ∨ (∃ a b, c[i]? = some a ∧ d[i]? = some b ∧ a < Inf ∧ b < Inf)) := by
        intro i hi
        obtain ⟨a, ha⟩ := get_len (xs := c) (i := i) (by rw [hc.len]; exact hi)
        obtain ⟨b, hb⟩ := get_len (xs := d) (i := i) (by rw [hd.len]; exact hi)
        rw [← hkeep]
        simp [keepOf, ha, hb]
      have hkI : keep x.Init.toNat = true := (hk _ (by omega)).2 (.inl (by omega))
      have hvT := trimS_v hv hkI
      have hspT := trim_sp hv hd hc hk
      obtain ⟨⟨d1, e1⟩, hd1, h1, h2⟩ := dist_ok hv
      obtain ⟨⟨f1, e2⟩, hf1, h3, h4⟩ := dist_ok hvT
      simp only at h1 h2 h3 h4
      subst h1 h3
      have q1 := h2.uniq (aokT hv) hd
      subst q1
      have hst : (trimS keep x).States.toNat = rank keep x.States.toNat := by simp [trimS]
      have q2 : f1 = (kept keep x.States.toNat).map fun i => d1.getD i 0 := by
        rw [hst] at h4
        have hA := aokT hvT
        rw [hst] at hA
        exact h4.uniq hA hspT
      rw [ht, hr]
      simp only [Option.bind_some, un3, un2, Option.isSome_none, Bool.false_eq_true, if_false, Same_p, decide_true, Bool.not_true, Ints_p, hd1, hf1, Bool.or_self]
      rw [ctl_all (p := fun _ => true) (r := false)]
      · simp
      · intro i hi
        have hi' : i < x.States.toNat := by simpa [toL] using hi
        obtain ⟨y, hy⟩ := get_len (xs := d1) (i := i) (by rw [hd.len]; exact hi')
        rw [idx_nat, toL_get hi']
        simp only [Option.bind_some, if_true]
        by_cases hki : keep i = true
        · have h0 := (toF_nonneg keep).2 hki
          have hrk : toF keep i = (rank keep i : Int) := by simp [toF, hki]
          have hlt := rank_lt keep hki hi'
          have hfl : f1.length = rank keep x.States.toNat := by rw [q2]; simp [rank]
          have hno : ¬ ((f1.length : Int) ≤ (rank keep i : Int)) := by omega
          have hfget : f1[rank keep i]? = some y := by rw [q2, List.getElem?_map, kept_get keep hki hi']; simp [hy]
          rw [hrk] at h0 ⊢
          simp only [h0, hno, decide_true, decide_false, if_true, Bool.false_eq_true, if_false, idx_nat, hy, hfget, Option.bind_some, Bool.not_true]
        · have h0 : ¬ 0 ≤ toF keep i := fun h => hki ((toF_nonneg keep).1 h)
          simp only [h0, decide_false, Bool.false_eq_true, if_false, Option.bind_some]
    · have v : valB x = false := by
        cases h : valB x with
        | false => rfl
        | true => exact absurd (valB_iff.1 h) hv
      simp [v]
end Go.Pw
