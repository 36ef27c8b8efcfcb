/-
  The reference's classes of bisimilar states, in plain Lean.
-/
import Derived.Test.YtagooehmocpcjaaDoorExBi
set_option maxHeartbeats 4000000
set_option maxRecDepth 100000
set_option linter.unusedSimpArgs false
set_option linter.unusedVariables false
namespace Go.Pw
open Classical in
noncomputable def leadsB (x : System) (cls : List Int) (s l c : Nat) : Bool := decide (∃ t, edgeN x s l t ∧ cN cls t = c)
/-- Is edge j one of those that are looked for? -/
def hitB (x : System) (cls : List Int) (s l c : Nat) (j : Nat) : Bool := match x.Edges[j]? with
  | some d => decide (d.From = (s : Int)) && (decide (d.Label = (l : Int)) && decide ((cN cls d.To.toNat : Int) = (c : Int)))
  | none => false
theorem leads_eq {x : System} (hv : VSys x) {cls : List Int} {b : Nat} (hc : ClsOf cls x.States.toNat b) (s l c : Nat) : ref45_leads_o_p x cls (s : Int) (l : Int) (c : Int) = some (leadsB x cls s l c) := by
  unfold ref45_leads_o_p
  have hd : ∀ j, j < x.Edges.length → ∃ i l' t : Nat, x.Edges[j]? = some ⟨(i : Int), (l' : Int), (t : Int)⟩ ∧ cls[t]? = some (cN cls t : Int) := by
    intro j hj
    obtain ⟨d, hd⟩ := get_some hj
    obtain ⟨i, l', t, rfl, _, ht, _⟩ := edge_nat hv (List.mem_of_getElem? hd)
    exact ⟨i, l', t, hd, (hc.get ht).1⟩
  rw [ctl_all (p := fun j => !(hitB x cls s l c j)) (r := true) ?_]
  · by_cases h : ∃ t, edgeN x s l t ∧ cN cls t = c
    · have hb : leadsB x cls s l c = true := by unfold leadsB; simp [h]
      obtain ⟨t, h1, h2⟩ := h
      obtain ⟨j, hj⟩ := List.mem_iff_getElem?.1 h1
      rw [hb, if_neg]
      intro hall
      have := List.all_eq_true.1 hall j (by have := (List.getElem?_eq_some_iff.1 hj).1; simpa using this)
      unfold hitB at this
      rw [hj] at this
      simp [h2] at this
    · have hb : leadsB x cls s l c = false := by unfold leadsB; simp [h]
      rw [hb, if_pos]
      refine List.all_eq_true.2 fun j hj => ?_
      obtain ⟨i, l', t, h1, h2⟩ := hd j (by simpa using hj)
      unfold hitB
      rw [h1]
      simp only [Int.toNat_natCast]
      by_cases e1 : (i : Int) = (s : Int)
      · by_cases e2 : (l' : Int) = (l : Int)
        · by_cases e3 : (cN cls t : Int) = (c : Int)
          · exact absurd ⟨t, by unfold edgeN; rw [← e1, ← e2]; exact List.mem_of_getElem? h1, by omega⟩ h
          · simp [e3]
        · simp [e2]
      · simp [e1]
  · intro j hj
    obtain ⟨i, l', t, h1, h2⟩ := hd j hj
    simp only [idx_nat, h1, Option.bind_some, h2, hitB, Int.toNat_natCast]
    by_cases e1 : (i : Int) = (s : Int)
    · by_cases e2 : (l' : Int) = (l : Int)
      · by_cases e3 : (cN cls t : Int) = (c : Int) <;> simp [e1, e2, e3]
      · simp [e1, e2]
    · simp [e1]
/-- Does edge j not part the two states? -/
noncomputable def fairB (x : System) (cls : List Int) (i k : Nat) (j : Nat) : Bool := match x.Edges[j]? with
  | some d => !(decide (d.From = (i : Int)) || decide (d.From = (k : Int))) || (leadsB x cls i d.Label.toNat (cN cls d.To.toNat) == leadsB x cls k d.Label.toNat (cN cls d.To.toNat))
  | none => true
open Classical in
noncomputable def agreeB (x : System) (hv : VSys x) (cls : List Int) (i k : Nat) : Bool := decide (goalR (TSof x hv) i k ∧ sig (TSof x hv) (eqL cls) i k)
theorem leadsB_iff {x : System} {cls : List Int} {s l c : Nat} : leadsB x cls s l c = true ↔ ∃ t, edgeN x s l t ∧ cN cls t = c := by unfold leadsB; simp
theorem agree_eq {x : System} (hv : VSys x) {cls : List Int} {b : Nat} (hc : ClsOf cls x.States.toNat b) {i k : Nat} (hi : i < x.States.toNat) (hk : k < x.States.toNat) : ref45_Agree_o_p x cls (i : Int) (k : Int) = some (agreeB x hv cls i k) := by
  unfold ref45_Agree_o_p
  have hg := hv.g
  have s1 := hv.s1
  obtain ⟨gi, hgi⟩ := get_some (show i < x.Goals.length by omega)
  obtain ⟨gk, hgk⟩ := get_some (show k < x.Goals.length by omega)
  have hgR : goalR (TSof x hv) i k ↔ gi = gk := by
    show x.Goals[i]?.getD false = x.Goals[k]?.getD false ↔ _
    rw [hgi, hgk]; rfl
  simp only [idx_nat, hgi, hgk, Option.bind_some]
  by_cases hgg : gi = gk
  · subst hgg
    simp only [beq_self_eq_true, Bool.not_true, Bool.false_eq_true, if_false]
    have hd : ∀ j, j < x.Edges.length → ∃ f l t : Nat, x.Edges[j]? = some ⟨(f : Int), (l : Int), (t : Int)⟩ ∧ cls[t]? = some (cN cls t : Int) := by
      intro j hj
      obtain ⟨d, hd⟩ := get_some hj
      obtain ⟨f, l, t, rfl, _, ht, _⟩ := edge_nat hv (List.mem_of_getElem? hd)
      exact ⟨f, l, t, hd, (hc.get ht).1⟩
    rw [ctl_all (p := fairB x cls i k) (r := false) ?_]
    · have hiff : ((List.range x.Edges.length).all (fairB x cls i k)) = true ↔ sig (TSof x hv) (eqL cls) i k := by
        rw [List.all_eq_true]
        have key : ∀ {i k : Nat}, (∀ l t, edgeN x i l t → leadsB x cls i l (cN cls t) = leadsB x cls k l (cN cls t)) → half (TSof x hv) (eqL cls) i k := by
          intro i k h l t he
          have h1 : leadsB x cls i l (cN cls t) = true := leadsB_iff.2 ⟨t, he, rfl⟩
          rw [h l t he] at h1
          obtain ⟨u, hu, e⟩ := leadsB_iff.1 h1
          exact ⟨u, hu, (cN_eq hc ((TSof x hv).rng _ _ _ he).2 ((TSof x hv).rng _ _ _ hu).2).1 e.symm⟩
        constructor
        · intro h
          have h' : ∀ f l t : Nat, edgeN x f l t → (f = i ∨ f = k) → leadsB x cls i l (cN cls t) = leadsB x cls k l (cN cls t) := by
            intro f l t he hf
            obtain ⟨j, hj⟩ := List.mem_iff_getElem?.1 he
            have := h j (by have := (List.getElem?_eq_some_iff.1 hj).1; simpa using this)
            unfold fairB at this
            rw [hj] at this
            have hf' : ((f : Int) = (i : Int)) ∨ ((f : Int) = (k : Int)) := by omega
            simp only [Int.toNat_natCast, Bool.or_eq_true, Bool.not_eq_true', Bool.or_eq_false_iff, decide_eq_false_iff_not, beq_iff_eq] at this
            rcases this with ⟨a1, a2⟩ | h
            · exact absurd hf' (by omega)
            · exact h
          exact ⟨key fun l t he => h' i l t he (.inl rfl), key fun l t he => (h' k l t he (.inr rfl)).symm⟩
        · rintro ⟨h1, h2⟩ j hj
          obtain ⟨f, l, t, g1, g2⟩ := hd j (by simpa using hj)
          unfold fairB
          rw [g1]
          have he : edgeN x f l t := List.mem_of_getElem? g1
          have hmono : ∀ {i k : Nat}, half (TSof x hv) (eqL cls) i k → leadsB x cls i l (cN cls t) = true → leadsB x cls k l (cN cls t) = true := by
            intro i k h hl
            obtain ⟨u, hu, e⟩ := leadsB_iff.1 hl
            obtain ⟨w, hw, e2⟩ := h l u hu
            refine leadsB_iff.2 ⟨w, hw, ?_⟩
            rw [← e]
            exact ((cN_eq hc ((TSof x hv).rng _ _ _ hu).2 ((TSof x hv).rng _ _ _ hw).2).2 e2).symm
          have : leadsB x cls i l (cN cls t) = leadsB x cls k l (cN cls t) := by
            rw [Bool.eq_iff_iff]
            exact ⟨hmono h1, hmono h2⟩
          simp [this]
      by_cases hs : sig (TSof x hv) (eqL cls) i k
      · rw [if_pos (hiff.2 hs)]
        have : agreeB x hv cls i k = true := by unfold agreeB; simp [hs, hgR]
        rw [this]
      · rw [if_neg (fun h => hs (hiff.1 h))]
        have : agreeB x hv cls i k = false := by unfold agreeB; simp [hs]
        rw [this]
    · intro j hj
      obtain ⟨f, l, t, h1, h2⟩ := hd j hj
      simp only [idx_nat, h1, Option.bind_some, h2, leads_eq hv hc, fairB, Int.toNat_natCast]
      by_cases e : (f : Int) = (i : Int)
      · simp only [e, decide_true, if_true, Option.bind_some, Bool.true_or, Bool.not_true, Bool.false_or]
        cases leadsB x cls i l (cN cls t) <;> cases leadsB x cls k l (cN cls t) <;> rfl
      · by_cases e2 : (f : Int) = (k : Int)
        · simp only [e, e2, decide_true, decide_false, if_true, Bool.false_eq_true, if_false, Option.bind_some, Bool.or_true, Bool.not_true, Bool.false_or]
          by_cases e3 : (k : Int) = (i : Int)
          · exact absurd (e2.trans e3) e
          · simp only [e3, decide_false, Bool.false_eq_true, if_false, Option.bind_some]
            cases leadsB x cls i l (cN cls t) <;> cases leadsB x cls k l (cN cls t) <;> rfl
        · simp [e, e2]
  · have hne : (gi == gk) = false := by simpa using hgg
    simp only [hne, Bool.not_false, if_true]
    have : agreeB x hv cls i k = false := by unfold agreeB; simp [hgR, hgg]
    rw [this]
/-- The relation that a round of the reference gives. -/
def refR (x : System) (hv : VSys x) (cls : List Int) : Rel := (eqL cls).and ((goalR (TSof x hv)).and (sig (TSof x hv) (eqL cls)))
theorem refR_eqv (x : System) (hv : VSys x) (cls : List Int) : Eqv (TSof x hv).n (refR x hv cls) := (eqL_eqv cls _).and ((goalR_eqv _).and (sig_eqv (eqL_eqv cls _)))
theorem zeros_cls (n : Nat) : ClsL (eqL (List.replicate n (0 : Int))) n (List.replicate n 0) := by
  refine ⟨by simp, fun i hi => ⟨0, by simp [hi], 0, Nat.zero_le _, ?_, fun j hj => absurd hj (Nat.not_lt_zero _), rfl⟩⟩
  unfold eqL
  simp [hi, show 0 < n by omega]
theorem refBis_ok {x : System} (hv : VSys x) (hs : x.States ≤ 4096) : Ok (ref45_Bisimulation_p x) fun c => IsBis (TSof x hv) c := by
  unfold ref45_Bisimulation_p
  have s1 := hv.s1
  obtain ⟨n, hn⟩ : ∃ n : Nat, x.States = (n : Int) := ⟨x.States.toNat, by omega⟩
  have hnt : x.States.toNat = n := by omega
  have hXn : (TSof x hv).n = n := hnt
  have hmk : mk 8 (0 : Int) x.States = some (List.replicate n 0) := by rw [hn]; exact mk_ok (by omega) (by omega)
  rw [hmk]
  simp only [Option.bind_some]
  refine Ok.while (fun c : List Int => Coarse (TSof x hv) (eqL c) ∧ ClsL (eqL c) n c) (fun _ => False) (fun c => IsBis (TSof x hv) c) (fun c => n - rnk (eqL c) n) ⟨?_, zeros_cls n⟩ ?_ (fun r h => Ok.ret h) (fun _ h => h.elim)
  · intro T _
    rw [hXn]
    intro i j hi hj _
    unfold eqL
    simp [hi, hj]
  · rintro c ⟨hco, hcl⟩
    have hc : ClsOf c x.States.toNat 4096 := by rw [hnt]; exact hcl.clsOf (by omega)
    have hE := refR_eqv x hv c
    rw [hXn] at hE
    refine (Ok.bind (Ok.forS (fun m (t : Int × List Int) => t.2.length = n ∧ (∀ q, q < m → ∃ k : Nat, t.2[q]? = some (k : Int) ∧ IsCls (refR x hv c) q k) ∧ t.1 = (rnk (refR x hv c) m : Int)) ⟨by simp, fun q h => absurd h (Nat.not_lt_zero _), rfl⟩ ?_ ?_)).mono fun c hc => hc
    · rintro m ⟨k, l⟩ hm ⟨hl, hd, hk⟩
      simp only at hl hd hk
      simp only [List.length_replicate] at hm
      obtain ⟨y, hy⟩ := get_some (show m < l.length by omega)
      simp only [un2, idx_nat, hy, Option.bind_some]
      rw [setI_nat (by omega)]
      simp only [Option.bind_some]
      refine Ok.must (by simp; omega) ?_
      refine Ok.bind (Ok.forS (fun j (l' : List Int) => l'.length = n ∧ (∀ q, q ≠ m → l'[q]? = l[q]?) ∧ ((l'[m]? = some (-1) ∧ ∀ q, q < j → ¬ refR x hv c q m) ∨ ∃ q kq : Nat, q < j ∧ q < m ∧ refR x hv c q m ∧ isRep (refR x hv c) q ∧ l'[m]? = some (kq : Int) ∧ IsCls (refR x hv c) q kq))
        ⟨by simp [hl], fun q hq => by rw [List.getElem?_set_ne (Ne.symm hq)], .inl ⟨by rw [List.getElem?_set_self (by omega)], fun q h => absurd h (Nat.not_lt_zero _)⟩⟩ ?_ ?_)
      · rintro j l' hj ⟨h1, h2, h3⟩
        have hjm : j < m := by omega
        rcases h3 with ⟨h3, h4⟩ | ⟨q, kq, hq, hqm, hR, hrep, h3, h4⟩
        · simp only [h3, Option.bind_some]
          rw [if_pos (by decide)]
          have hcm := (hc.get (i := m) (by omega)).1
          have hcj := (hc.get (i := j) (by omega)).1
          simp only [hcm, hcj, Option.bind_some]
          by_cases e : (cN c m : Int) = (cN c j : Int)
          · rw [if_pos (by simpa using e), agree_eq hv hc (by omega) (by omega)]
            simp only [Option.bind_some]
            have hcc : eqL c m j := (cN_eq hc (by omega) (by omega)).1 (by omega)
            by_cases ha : agreeB x hv c m j = true
            · have hR : refR x hv c j m := by
                unfold agreeB at ha
                simp only [decide_eq_true_eq] at ha
                exact ⟨Eq.symm hcc, Eq.symm ha.1, ha.2.2, ha.2.1⟩
              have hrep : isRep (refR x hv c) j := fun q hq hqR => h4 q (by omega) (hE.trans q j m (by omega) (by omega) (by omega) hqR hR)
              obtain ⟨kj, g1, g2⟩ := hd j (by omega)
              have g1' : l'[j]? = some (kj : Int) := by rw [h2 j (by omega)]; exact g1
              simp only [ha, if_true, g1', Option.bind_some]
              rw [setI_nat (by omega)]
              refine Ok.ret ⟨by simp [h1], fun q hq => by rw [List.getElem?_set_ne (Ne.symm hq)]; exact h2 q hq, .inr ⟨j, kj, by omega, hjm, hR, hrep, by rw [List.getElem?_set_self (by omega)], g2⟩⟩
            · have ha' : agreeB x hv c m j = false := by simpa using ha
              simp only [ha', Bool.false_eq_true, if_false, Option.bind_some]
              refine Ok.ret ⟨h1, h2, .inl ⟨h3, fun q hq hR => ?_⟩⟩
              by_cases eq : q = j
              · subst eq
                apply ha
                unfold agreeB
                simp only [decide_eq_true_eq]
                exact ⟨Eq.symm hR.2.1, hR.2.2.2, hR.2.2.1⟩
              · exact h4 q (by omega) hR
          · rw [if_neg (by simpa using e)]
            simp only [Option.bind_some, Bool.false_eq_true, if_false]
            refine Ok.ret ⟨h1, h2, .inl ⟨h3, fun q hq hR => ?_⟩⟩
            by_cases eq : q = j
            · subst eq
              have := (cN_eq hc (i := q) (j := m) (by omega) (by omega)).2 hR.1
              omega
            · exact h4 q (by omega) hR
        · have hno : ¬ ((kq : Int) < 0) := by omega
          simp only [h3, Option.bind_some, hno, decide_false, Bool.false_eq_true, if_false]
          exact Ok.ret ⟨h1, h2, .inr ⟨q, kq, by omega, hqm, hR, hrep, h3, h4⟩⟩
      · rintro l' ⟨h1, h2, h3⟩
        have hmt : ((m : Int)).toNat = m := by omega
        rw [hmt] at h3
        have hdone : ∀ q, q < m → ∃ k : Nat, l'[q]? = some (k : Int) ∧ IsCls (refR x hv c) q k := by
          intro q hq
          rw [h2 q (by omega)]
          exact hd q hq
        rcases h3 with ⟨h3, h4⟩ | ⟨q, kq, hq, hqm, hR, hrep, h3, h4⟩
        · have hrep : isRep (refR x hv c) m := fun q hq => h4 q hq
          simp only [h3, Option.bind_some]
          rw [if_pos (by decide), setI_nat (by omega)]
          have hkb := rnk_n (refR x hv c) m
          simp only [Option.bind_some, un2]
          refine Ok.ret ⟨by simp [h1], fun q hq => ?_, ?_⟩
          · by_cases e : q = m
            · subst e
              exact ⟨rnk (refR x hv c) q, by rw [List.getElem?_set_self (by omega), hk], q, Nat.le_refl _, hE.refl q (by omega), hrep, rfl⟩
            · rw [List.getElem?_set_ne (Ne.symm e)]; exact hdone q (by omega)
          · rw [hk, rnk_succ, wrap_id (by omega) (by omega)]
            simp [hrep]
        · have hno : ¬ ((kq : Int) < 0) := by omega
          simp only [h3, Option.bind_some, hno, decide_false, Bool.false_eq_true, if_false, un2]
          have hnr : ¬ isRep (refR x hv c) m := fun h => h q hqm hR
          obtain ⟨r, a1, a2, a3, a4⟩ := h4
          have hrq : r = q := by
            rcases Nat.lt_or_ge r q with hlt | hge
            · exact absurd a2 (hrep r hlt)
            · omega
          subst hrq
          refine Ok.ret ⟨h1, fun p hp => ?_, ?_⟩
          · by_cases e : p = m
            · subst e
              exact ⟨kq, h3, r, by omega, hR, hrep, a4⟩
            · exact hdone p (by omega)
          · rw [hk, rnk_succ]; simp [hnr]
    · rintro ⟨k, l⟩ ⟨hl, hd, hk⟩
      simp only at hl hd hk
      simp only [List.length_replicate] at hd
      simp only [un2, Ints_o_o, Option.bind_some]
      have hL : ClsL (refR x hv c) n l := ⟨hl, hd⟩
      obtain ⟨e1, e2⟩ := hL.eqL hE
      by_cases e : l = c
      · subst e
        simp only [decide_true, if_true]
        refine ⟨_, rfl, fun s' e => (by cases e), fun s' e => (by cases e), fun r e => ?_⟩
        cases e
        refine ⟨⟨eqL_eqv l _, ?_, ?_⟩, hco, by rw [hXn]; exact hcl⟩
        · rw [hXn]; exact fun i j hi hj q => ((e1 i j hi hj).2 q).2.1
        · rw [hXn]; exact fun i j hi hj q => ((e1 i j hi hj).2 q).2.2
      · simp only [e, decide_false, Bool.false_eq_true, if_false]
        have hle : rnk (eqL c) n ≤ rnk (refR x hv c) n := rnk_finer (eqL_eqv c _) hE (fun i j hi hj q => q.1) _ (Nat.le_refl _)
        have hcg := rnk_congr e1 (Nat.le_refl n)
        have hne : rnk (eqL c) n ≠ rnk (refR x hv c) n := by
          intro h
          have h2 := rnk_same (eqL_eqv c n) hE (fun i j hi hj q => q.1) h
          exact e ((hL.congr fun i j hi hj => (h2 i j hi hj).symm).uniq (eqL_eqv c n) hcl)
        have hb := rnk_n (eqL l) n
        refine ⟨_, rfl, fun s' e => ?_, fun s' e => (by cases e), fun r e => (by cases e)⟩
        cases e
        refine ⟨⟨?_, e2⟩, by omega⟩
        intro T hT
        have h1 := hco T hT
        have h2 := hT.goal
        have h3 := hT.sig
        rw [hXn] at h1 h2 h3 ⊢
        intro i j hi hj q
        exact (e1 i j hi hj).1 ⟨h1 i j hi hj q, h2 i j hi hj q, sig_mono (by rw [hXn]; exact h1) i j (h3 i j hi hj q)⟩
end Go.Pw
