/-
  The projection to one variable, in plain Lean: the system.
-/
import Derived.Test.YtdhfofhginfdnaaWhPk
set_option maxHeartbeats 4000000
set_option linter.unusedSimpArgs false
set_option linter.unusedVariables false
namespace Go.Pw
/-- The edges of a variable's system. -/
def AE (t : Task) (v : Int) (e : Edge) : Prop := ∃ (i : Nat) (o : Op), t.Ops[i]? = some o ∧ e.Label = (i : Int) ∧ TB t o v e.From e.To
def goalAt (t : Task) (v a : Int) : Prop := ∀ f ∈ t.Goal, f.Var = v → f.Val = a
structure AtomRes (t : Task) (v : Int) (x : System) : Prop where
  s : x.States = dom t.Vars v
  i : t.Init[v.toNat]? = some x.Init
  c : x.Costs = t.Ops.map fun o => o.Cost
  gl : (x.Goals.length : Int) = dom t.Vars v
  g : ∀ a : Nat, (a : Int) < dom t.Vars v → ∃ b, x.Goals[a]? = some b ∧ (b = true ↔ goalAt t v a)
  srt : Srt x.Edges
  mem : ∀ e, e ∈ x.Edges ↔ AE t v e
  n : x.Edges.length ≤ 65536
theorem AtomRes.uniq {t : Task} {v : Int} {x y : System} (h : AtomRes t v x) (k : AtomRes t v y) : x = y := by
  have h1 : x.States = y.States := by rw [h.s, k.s]
  have h2 : x.Init = y.Init := by have := h.i; rw [k.i] at this; exact (Zu this).symm
  have h3 : x.Costs = y.Costs := by rw [h.c, k.c]
  have h4 : x.Edges = y.Edges := Srt.ext h.srt k.srt fun e => by rw [h.mem, k.mem]
  have h5 : x.Goals = y.Goals := by
    apply List.ext_getElem?
    intro i
    by_cases hi : i < x.Goals.length
    · have hlt : (i : Int) < dom t.Vars v := by rw [← h.gl]; omega
      obtain ⟨b, hb, hb2⟩ := h.g i hlt
      obtain ⟨c, hc, hc2⟩ := k.g i hlt
      rw [hb, hc]
      congr 1
      rw [Bool.eq_iff_iff, hb2, hc2]
    · have := h.gl
      have := k.gl
      rw [List.getElem?_eq_none (by omega), List.getElem?_eq_none (by omega)]
  cases x; cases y
  simp only at *
  subst h1 h2 h3 h4 h5
  rfl
abbrev noS : System := ⟨0, 0, [], [], []⟩
theorem check1 {t : Task} {v : Int} (hn : ∀ o ∈ t.Ops, o.Name.size ≤ 9223372036854775807) : Ok (project_check_p t [v]) fun e => e = none ↔ GoodT t ∧ 0 ≤ v ∧ v < (t.Vars.length : Int) := by
  unfold project_check_p
  obtain ⟨e, he, hg⟩ := check_ok t hn
  rw [he]
  simp only [Option.bind_some]
  cases e with
  | some e =>
    simp only [Option.isSome_some, if_true]
    refine Ok.ret ⟨fun h => (by cases h), fun h => ?_⟩
    have := hg.2 h.1
    cases this
  | none =>
    have hG := hg.1 rfl
    simp only [Option.isSome_none, Bool.false_eq_true, if_false]
    simp only [List.length_singleton, forC, ctl, idx_nat, List.getElem?_cons_zero, Option.bind_some]
    by_cases h1 : v < 0
    · simp only [h1, decide_true, if_true, Option.bind_some]
      exact Ok.ret ⟨fun h => (by cases h), fun h => by omega⟩
    by_cases h2 : (t.Vars.length : Int) ≤ v
    · simp only [h1, h2, decide_true, decide_false, Bool.false_eq_true, if_false, if_true, Option.bind_some]
      exact Ok.ret ⟨fun h => (by cases h), fun h => by omega⟩
    simp only [h1, h2, decide_false, Bool.false_eq_true, if_false, Option.bind_some]
    rw [if_neg (by simp)]
    exact Ok.ret ⟨fun _ => ⟨hG, by omega, by omega⟩, fun _ => rfl⟩
open Classical in
theorem goal_loop {t : Task} (hg : FactsOK t.Vars t.Goal) {v a : Int} {s : List Int} (hs : s[v.toNat]? = some a) : Ok (forS (fun i => fun (goal : Bool) => (idx t.Goal (i : Int)).bind fun x =>
    (if goal then ((slices_Contains___int_int__p [v] x.Var).bind <| fun (y : Bool) =>
    if !y then (some true)
    else ((idx s x.Var).bind fun z =>
    some (decide (z = x.Val))))
    else (some false)).bind (fun (goal : Bool) => some goal)) (t.Goal.length) 0 true) fun b => b = decide (goalAt t v a) := by
  refine Ok.forS (fun i b => b = decide (∀ f ∈ t.Goal.take i, f.Var = v → f.Val = a)) (by simp) ?_ ?_
  · rintro i b hi rfl
    obtain ⟨x, hx⟩ := get_len hi
    have hr := hg.r x (List.mem_of_getElem? hx)
    simp only [idx_nat, hx, Option.bind_some, contains_p, List.mem_singleton, take_snoc hx]
    by_cases h1 : ∀ f ∈ t.Goal.take i, f.Var = v → f.Val = a
    · by_cases h2 : x.Var = v
      · have e1 : idx s x.Var = some a := by unfold idx; rw [if_pos hr.1, h2, hs]
        rw [h2] at e1
        simp only [h2, e1, decide_true, Bool.not_true, Bool.false_eq_true, if_false, Option.bind_some]
        rw [if_pos (by simpa using h1)]
        refine Ok.ret ?_
        by_cases h3 : a = x.Val
        · rw [decide_eq_true h3, decide_eq_true]
          intro f hf hv
          rcases List.mem_append.1 hf with hf | hf
          · exact h1 f hf hv
          · simp only [List.mem_singleton] at hf; subst hf; exact h3.symm
        · rw [decide_eq_false h3, decide_eq_false]
          intro h
          exact h3 (h x (by simp) h2).symm
      · simp only [h2, decide_false, Bool.not_false, if_true]
        rw [if_pos (by simpa using h1)]
        refine Ok.ret ?_
        rw [decide_eq_true]
        intro f hf hv
        rcases List.mem_append.1 hf with hf | hf
        · exact h1 f hf hv
        · simp only [List.mem_singleton] at hf; subst hf; exact absurd hv h2
    · rw [if_neg (by simpa using h1)]
      refine Ok.ret ?_
      rw [decide_eq_false]
      exact fun h => h1 fun f hf hv => h f (by simp [hf]) hv
  · rintro b rfl
    rw [List.take_length]
    exact decide_eq_decide.2 Iff.rfl
/-- When no limit is met. -/
def Room (t : Task) (v : Int) : Prop := ∃ M : Nat, (∀ o ∈ t.Ops, ∀ fr : List Int, fr.Nodup → (∀ w, w ∈ fr ↔ Free o v w) → prd (fr.map (dom t.Vars)) ≤ M) ∧ M ≤ 4096 ∧ (dom t.Vars v).toNat * t.Ops.length * M < 65536
theorem project1_ok {t : Task} {v : Int} (ht : GoodT t) (h0 : 0 ≤ v) (h1 : v < (t.Vars.length : Int)) (hn : ∀ o ∈ t.Ops, o.Name.size ≤ 9223372036854775807) :
    Ok (project_Project_p t [v]) fun r => (r.1 = none ∧ AtomRes t v r.2) ∨ (r.1 = some 5 ∧ r.2 = noS ∧ ¬ Room t v) := by
  classical
  have hd := dom_pos ht.v h0 h1
  have hno := ht.no
  have hnv := ht.nv
  unfold project_Project_p
  obtain ⟨e, he, hg⟩ := check1 (t := t) (v := v) hn
  obtain rfl := hg.2 ⟨ht, h0, h1⟩
  rw [he]
  simp only [Option.bind_some, Option.isSome_none, Bool.false_eq_true, if_false]
  obtain ⟨r, hr, hr2⟩ := count_ok ht.v (l := [v]) (by simp [h0, h1])
  have hpv : prd ([v].map (dom t.Vars)) = dom t.Vars v := by simp [prd]
  have hr3 : r = (dom t.Vars v, true) := by
    rw [hpv] at hr2
    rcases hr2 with ⟨_, h⟩ | ⟨h, _⟩
    · exact h
    · omega
  subst hr3
  rw [hr]
  obtain ⟨x0, hx0, hx1, hx2⟩ := ht.init.at h0 h1
  simp only [Option.bind_some, un2, Bool.not_true, Bool.false_eq_true, if_false, number1 ht.v h0 h1 hx0 hx1 (by omega)]
  refine Ok.step (mk_ok (by omega) (by omega)) ?_
  refine Ok.ctl (fun i q => q.1 = (t.Ops.take i).map (fun o => o.Cost) ∧ q.2.length = t.Ops.length ∧ ∀ j o, j < i → t.Ops[j]? = some o → ∃ fr, q.2[j]? = some fr ∧ fr.Nodup ∧ (∀ w, w ∈ fr ↔ Free o v w) ∧ prd (fr.map (dom t.Vars)) ≤ 4096)
    (fun r => r = (some 5, noS) ∧ ¬ Room t v) ⟨by simp, by simp, fun j o hj => by omega⟩ ?_ ?_ ?_
  · rintro i ⟨cs, fs⟩ hi ⟨g1, g2, g3⟩
    simp only at g1 g2 g3
    obtain ⟨o, ho⟩ := get_len hi
    have hom := List.mem_of_getElem? ho
    have hop := ht.op o hom
    obtain ⟨fr, hf, hf1, hf2⟩ := outside_ok hop hnv (v := v)
    have hfr : ∀ w ∈ fr, 0 ≤ w ∧ w < (t.Vars.length : Int) := by
      intro w hw
      obtain ⟨_, _, e, he, _, f, hf, rfl⟩ := (hf2 w).1 hw
      have := (hop.eff e he).1.r f hf
      exact ⟨this.1, this.2.1⟩
    obtain ⟨y, hy⟩ := get_len (xs := fs) (i := i) (by omega)
    simp only [un2, idx_nat, ho, Option.bind_some]
    rw [app_ok (by rw [g1]; simp; omega)]
    simp only [Option.bind_some, hf, hy, setI_nat (show i < fs.length by omega)]
    rw [List.getElem?_set_self (by omega)]
    simp only [Option.bind_some]
    obtain ⟨r, hr, hr2⟩ := count_ok ht.v hfr
    rw [hr]
    simp only [Option.bind_some]
    rcases hr2 with ⟨h2, rfl⟩ | ⟨h2, rfl⟩
    · simp only [un2, Bool.not_true, Bool.false_eq_true, if_false]
      refine Ok.ret ⟨by simp only; rw [g1, take_snoc ho]; simp, by simp [g2], fun j o' hj ho' => ?_⟩
      by_cases e : j = i
      · subst e
        rw [ho] at ho'; cases ho'
        exact ⟨fr, by simp only; rw [List.getElem?_set_self (by omega)], hf1, hf2, h2⟩
      · simp only
        rw [List.getElem?_set_ne (Ne.symm e)]
        exact g3 j o' (by omega) ho'
    · simp only [un2, Bool.not_false, if_true]
      refine Ok.ret ⟨rfl, ?_⟩
      rintro ⟨M, hM, hM2, _⟩
      have := hM o hom fr hf1 hf2
      omega
  · rintro r ⟨rfl, h⟩
    exact Ok.ret (.inr ⟨rfl, rfl, h⟩)
  rintro ⟨cs, fs⟩ ⟨g1, g2, g3⟩
  simp only at g1 g2 g3
  rw [List.take_length] at g1
  simp only [un2]
  refine Ok.step (mk_ok (by omega) (by omega)) (Ok.must (by simp; omega) ?_)
  have hdn : ((dom t.Vars v).toNat : Int) = dom t.Vars v := by omega
  generalize hD : (dom t.Vars v).toNat = D at *
  let Bd : Nat → Prop := fun M => (∀ o ∈ t.Ops, ∀ fr : List Int, fr.Nodup → (∀ w, w ∈ fr ↔ Free o v w) → prd (fr.map (dom t.Vars)) ≤ M)
  refine Ok.ctl (fun a q => q.2.2.length = t.Vars.length ∧ q.2.1.length = a ∧ (∀ b, b < a → ∃ z, q.2.1[b]? = some z ∧ (z = true ↔ goalAt t v b)) ∧ Srt q.1 ∧ (∀ e, e ∈ q.1 ↔ AE t v e ∧ e.From < (a : Int)) ∧ q.1.length ≤ 65536 ∧ ∀ M, Bd M → q.1.length ≤ a * t.Ops.length * M)
    (fun r => r = (some 5, noS) ∧ ¬ Room t v) ⟨by simp, by simp, fun b hb => by omega, List.Pairwise.nil, ?_, by simp, by simp⟩ ?_ ?_ ?_
  · intro e
    simp only [List.not_mem_nil, false_iff]
    rintro ⟨⟨i, o, _, _, σ, hσ, hv, _⟩, hlt⟩
    obtain ⟨y, hy, hy0, _⟩ := hσ.at h0 h1
    rw [hy] at hv
    have := Zu hv
    omega
  · rintro a ⟨E, G, s⟩ ha ⟨k1, k2, k3, k4, k5, k6, k7⟩
    simp only at k1 k2 k3 k4 k5 k6 k7
    have haD : (a : Int) < dom t.Vars v := by omega
    have hput : put_p t [v] s (a : Int) = some (s.set v.toNat a) := by
      rw [put_ok ht.v (by simp [h0, h1]) (by simp) k1 (by omega) (by omega)]
      simp only [List.reverse_singleton, putL]
      rw [Int.emod_eq_of_lt (by omega) haD]
    have hsv : (s.set v.toNat (a : Int))[v.toNat]? = some (a : Int) := by rw [List.getElem?_set_self (by omega)]
    simp only [un3, hput, Option.bind_some]
    obtain ⟨b, hb, hb2⟩ := goal_loop ht.goal hsv
    subst hb2
    refine Ok.step hb ?_
    rw [app_ok (by simp only [List.length_singleton]; omega)]
    simp only [Option.bind_some]
    refine Ok.ctl (fun i E' => Srt E' ∧ (∀ e, e ∈ E' ↔ AE t v e ∧ (e.From < (a : Int) ∨ e.From = (a : Int) ∧ e.Label < (i : Int))) ∧ E'.length ≤ 65536 ∧ ∀ M, Bd M → E'.length ≤ (a * t.Ops.length + i) * M)
      (fun r => r = (some 5, noS) ∧ ¬ Room t v) ⟨k4, fun e => ?_, k6, fun M hM => by simpa using k7 M hM⟩ ?_ ?_ ?_
    · rw [k5]
      constructor
      · rintro ⟨h1, h2⟩; exact ⟨h1, .inl h2⟩
      · rintro ⟨h1, h2 | ⟨h2, h3⟩⟩
        · exact ⟨h1, h2⟩
        · obtain ⟨i, o, _, h4, _⟩ := h1
          omega
    · rintro i E' hi ⟨f1, f2, f3, f4⟩
      obtain ⟨o, ho⟩ := get_len hi
      have hom := List.mem_of_getElem? ho
      obtain ⟨fr, hfr, hf1, hf2, hf3⟩ := g3 i o hi ho
      obtain ⟨L, hL, hL1, hL2, hL3⟩ := targets_ok ht ho h0 h1 (a := (a : Int)) (by omega) haD hf1 hf2 hf3
      simp only [idx_nat, hfr, hL, Option.bind_some]
      refine Ok.ctl (fun j E2 => E2 = E' ++ (L.take j).map (fun b => (⟨(a : Int), (i : Int), b⟩ : Edge)) ∧ E2.length ≤ 65536) (fun r => r = (some 5, noS) ∧ ¬ Room t v) ⟨by simp, f3⟩ ?_ ?_ ?_
      · rintro j E2 hj ⟨e1, e2⟩
        obtain ⟨b, hb⟩ := get_len hj
        simp only [idx_nat, hb, Option.bind_some]
        by_cases hc : (E2.length : Int) = 65536
        · simp only [hc, decide_true, if_true]
          refine Ok.ret ⟨rfl, ?_⟩
          rintro ⟨M, hM, hM2, hM3⟩
          rw [hD] at hM3
          have hbd : Bd M := hM
          have q1 := f4 M hbd
          have q2 := hM o hom fr hf1 hf2
          have q3 : E2.length = E'.length + j := by rw [e1]; simp; omega
          have q4 : (a * t.Ops.length + i) * M + M ≤ D * t.Ops.length * M := by
            rw [← Nat.succ_mul]
            refine Nat.mul_le_mul_right _ ?_
            have : (a + 1) * t.Ops.length ≤ D * t.Ops.length := Nat.mul_le_mul_right _ ha
            rw [Nat.succ_mul] at this
            omega
          omega
        · simp only [hc, decide_false, Bool.false_eq_true, if_false]
          rw [app_ok (by simp only [List.length_singleton]; omega)]
          simp only [Option.bind_some]
          refine Ok.ret ⟨?_, by simp; omega⟩
          rw [take_snoc hb, e1]
          simp
      · rintro r h
        exact Ok.ret h
      · rintro E2 ⟨e1, e2⟩
        rw [List.take_length] at e1
        subst e1
        refine Ok.ret ⟨?_, fun e => ?_, e2, fun M hM => ?_⟩
        · refine List.pairwise_append.2 ⟨f1, ?_, ?_⟩
          · refine List.pairwise_map.2 (hL1.imp ?_)
            intro x y hxy
            exact .inr ⟨rfl, .inr ⟨rfl, hxy⟩⟩
          · intro x hx y hy
            obtain ⟨b, hb, rfl⟩ := List.mem_map.1 hy
            rcases ((f2 x).1 hx).2 with h | ⟨h, h'⟩
            · exact .inl h
            · exact .inr ⟨h, .inl h'⟩
        · rw [List.mem_append, f2, List.mem_map]
          constructor
          · rintro (⟨h2, h3⟩ | ⟨b, hb, rfl⟩)
            · exact ⟨h2, by omega⟩
            · exact ⟨⟨i, o, ho, rfl, (hL2 b).1 hb⟩, .inr ⟨rfl, by simp only; omega⟩⟩
          · rintro ⟨h2, h3⟩
            by_cases h4 : e.From = (a : Int) ∧ e.Label = (i : Int)
            · obtain ⟨i', o', ho', hl', hT⟩ := h2
              have : i' = i := by omega
              subst this
              rw [ho] at ho'; cases ho'
              rw [h4.1] at hT
              refine .inr ⟨e.To, (hL2 _).2 hT, ?_⟩
              cases e
              simp only at *
              rw [h4.1, h4.2]
            · exact .inl ⟨h2, by omega⟩
        · have q1 := f4 M hM
          have q2 := hM o hom fr hf1 hf2
          rw [← Nat.add_assoc, Nat.succ_mul]
          simp only [List.length_append, List.length_map]
          omega
    · rintro r ⟨rfl, h⟩
      exact Ok.ret ⟨rfl, h⟩
    · rintro E' ⟨f1, f2, f3, f4⟩
      refine Ok.ret ⟨by simp [k1], by simp [k2], fun b hb => ?_, f1, fun e => ?_, f3, fun M hM => ?_⟩
      · simp only
        by_cases e : b = a
        · subst e
          exact ⟨_, by rw [List.getElem?_append_right (by omega), k2, Nat.sub_self]; rfl, by simp⟩
        · rw [List.getElem?_append_left (by omega)]
          exact k3 b (by omega)
      · simp only
        rw [f2]
        constructor
        · rintro ⟨h2, h3⟩; exact ⟨h2, by omega⟩
        · rintro ⟨h2, h3⟩
          have h4 := h2
          obtain ⟨i', o', ho', hl', hT⟩ := h4
          have := (List.getElem?_eq_some_iff.1 ho').1
          exact ⟨h2, by omega⟩
      · have := f4 M hM
        simp only
        rw [Nat.succ_mul]
        exact this
  · rintro r ⟨rfl, h⟩
    exact Ok.ret (.inr ⟨rfl, rfl, h⟩)
  · rintro ⟨E, G, s⟩ ⟨k1, k2, k3, k4, k5, k6, k7⟩
    simp only at k1 k2 k3 k4 k5 k6 k7
    simp only [un3]
    refine Ok.ret (.inl ⟨rfl, rfl, hx0, g1, by simp only; omega, fun a ha => k3 a (by omega), k4, fun e => ?_, k6⟩)
    simp only
    rw [k5]
    constructor
    · exact fun h => h.1
    · intro h
      refine ⟨h, ?_⟩
      obtain ⟨_, _, _, _, σ, hσ, hv, _⟩ := h
      obtain ⟨y, hy, _, hy1⟩ := hσ.at h0 h1
      rw [hy] at hv
      have := Zu hv
      omega
theorem atomic_ok {t : Task} {v : Int} (hn : ∀ o ∈ t.Ops, o.Name.size ≤ 9223372036854775807) : Ok (transys_Atomic_p t v) fun r =>
    (GoodT t ∧ 0 ≤ v ∧ v < (t.Vars.length : Int) → (r.1 = none ∧ AtomRes t v r.2) ∨ (r.1 = some 5 ∧ r.2 = noS ∧ ¬ Room t v)) ∧ (¬ (GoodT t ∧ 0 ≤ v ∧ v < (t.Vars.length : Int)) → r.1.isSome = true ∧ r.2 = noS) := by
  unfold transys_Atomic_p
  by_cases h : GoodT t ∧ 0 ≤ v ∧ v < (t.Vars.length : Int)
  · obtain ⟨⟨e, x⟩, hr, h2⟩ := project1_ok h.1 h.2.1 h.2.2 hn
    rw [hr]
    exact Ok.ret ⟨fun _ => h2, fun h' => absurd h h'⟩
  · have : Ok (project_Project_p t [v]) fun r => r.1.isSome = true ∧ r.2 = noS := by
      unfold project_Project_p
      obtain ⟨e, he, hg⟩ := check1 (t := t) (v := v) hn
      rw [he]
      simp only [Option.bind_some]
      cases e with
      | none => exact absurd (hg.1 rfl) h
      | some e =>
        simp only [Option.isSome_some, if_true]
        exact Ok.ret ⟨rfl, rfl⟩
    obtain ⟨⟨e, x⟩, hr, h2⟩ := this
    rw [hr]
    exact Ok.ret ⟨fun h' => absurd h' h, fun _ => h2⟩
end Go.Pw
