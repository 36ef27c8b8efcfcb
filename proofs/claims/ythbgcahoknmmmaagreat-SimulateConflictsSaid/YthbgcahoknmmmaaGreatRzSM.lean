/-
  P58.1: what Conflicts returns (plain).
-/
import Derived.Test.YthbgcahoknmmmaaGreatRzSG
set_option linter.unusedVariables false
set_option linter.unusedSimpArgs false
namespace Go.Pw
def confB (a b : Job) : Bool := ([false, true].any fun ea => [false, true].any fun eb => intB a b ea eb) || [false, true].any fun e => meetB (wrH a e) b.Over || meetB (wrH b e) a.Over
theorem sharedB {a b : List Fact} (ha : ∀ f ∈ a, 0 ≤ f.Var) : Ok (simulate_shared_p a b) fun y => decide (0 ≤ y) = meetB a b := by
  refine (shared_ok ha).mono fun y hy => ?_
  rw [Bool.eq_iff_iff, decide_eq_true_eq, meetB_iff]
  rcases hy with ⟨h1, h2⟩ | ⟨h1, ⟨⟨x, hx, e⟩, y, hy, e'⟩, _⟩
  · exact ⟨fun h => by omega, fun ⟨x, hx, y, hy, e⟩ => absurd ⟨⟨x, hx, rfl⟩, y, hy, e.symm⟩ (h2 x.Var (ha x hx))⟩
  · exact ⟨fun _ => ⟨x, hx, y, hy, e.trans e'.symm⟩, fun _ => h1⟩
theorem conflict_ok {n : Nat} {a b : Job} (ha : JobOK n a) (hb : JobOK n b) : simulate_conflict_p a b = some (confB a b) := by
  unfold simulate_conflict_p
  rw [ctl_list (p := fun ea => !([false, true].any fun eb => intB a b ea eb)) (r := true)]
  · rw [ctl_list (p := fun e => !(meetB (wrH a e) b.Over || meetB (wrH b e) a.Over)) (r := true)]
    · unfold confB
      simp only [List.all_cons, List.all_nil, List.any_cons, List.any_nil, Bool.or_false, Bool.and_true]
      cases intB a b false false <;> cases intB a b false true <;> cases intB a b true false <;> cases intB a b true true <;> cases meetB (wrH a false) b.Over <;> cases meetB (wrH b false) a.Over <;> cases meetB (wrH a true) b.Over <;> cases meetB (wrH b true) a.Over <;> rfl
    · intro j e he
      rw [idx_nat, he, Option.bind_some]
      obtain ⟨y, h1, h2⟩ := sharedB (b := b.Over) (ha.wr0 e)
      obtain ⟨z, h3, h4⟩ := sharedB (b := a.Over) (hb.wr0 e)
      simp only [hap_eq]
      rw [h1, Option.bind_some, h2, h3]
      cases meetB (wrH a e) b.Over
      · simp only [Bool.false_eq_true, if_false, Option.bind_some, h4, Bool.false_or]
        cases meetB (wrH b e) a.Over <;> rfl
      · rfl
  · intro j ea hea
    rw [idx_nat, hea, Option.bind_some]
    rw [ctl_list (p := fun eb => !(intB a b ea eb)) (r := true)]
    · simp only [List.all_cons, List.all_nil, List.any_cons, List.any_nil, Bool.or_false, Bool.and_true]
      cases intB a b ea false <;> cases intB a b ea true <;> rfl
    · intro k eb heb
      rw [idx_nat, heb, Option.bind_some, (meeting_ok ha hb ea eb).1, Option.bind_some]
      have := meetV_int ha hb ea eb
      by_cases c : 0 ≤ meetV a b ea eb
      · rw [if_pos (by simpa using c), this.1 c]; rfl
      · have e : intB a b ea eb = false := by
          cases h : intB a b ea eb
          · rfl
          · exact absurd (this.2 h) c
        rw [if_neg (by simpa using c), e]; rfl
def jn (t : Temporal) (k : Nat) : Job := t.Jobs[k]!
theorem jn_idx {t : Temporal} {k : Nat} (h : k < t.Jobs.length) : idx t.Jobs (k : Int) = some (jn t k) := by rw [idx_nat]; simp [jn, h]
theorem jn_mem {t : Temporal} {k : Nat} (h : k < t.Jobs.length) : jn t k ∈ t.Jobs := by
  have : t.Jobs[k]? = some (jn t k) := by simp [jn, h]
  exact List.mem_of_getElem? this
def cfI (t : Temporal) (i b : Nat) : List Arr2_int := ((List.range b).filter fun k => decide (i < k) && confB (jn t i) (jn t k)).map fun (k : Nat) => ⟨(i : Int), (k : Int)⟩
def cfL (t : Temporal) : List Arr2_int := (List.range t.Jobs.length).flatMap fun i => cfI t i t.Jobs.length
theorem cfI_len (t : Temporal) (i b : Nat) : (cfI t i b).length ≤ b := by
  unfold cfI
  rw [List.length_map]
  have := List.length_filter_le (fun k => decide (i < k) && confB (jn t i) (jn t k)) (List.range b)
  simpa using this
theorem cfI_nil (t : Temporal) (i : Nat) : cfI t i (i + 1) = [] := by
  unfold cfI
  rw [List.map_eq_nil_iff, List.filter_eq_nil_iff]
  intro k hk
  have : k < i + 1 := by simpa using hk
  have : ¬ i < k := by omega
  simp [this]
theorem cfI_succ (t : Temporal) {i b : Nat} (h : i < b) : cfI t i (b + 1) = cfI t i b ++ if confB (jn t i) (jn t b) then [⟨(i : Int), (b : Int)⟩] else [] := by
  unfold cfI
  rw [List.range_succ, List.filter_append, List.map_append]
  congr 1
  cases c : confB (jn t i) (jn t b) <;> simp [h, c]
theorem Conflicts_ok {t : Temporal} (hc : temporal_Check_p t = some none) (hk : Chk t) : simulate_Conflicts_p t = some (cfL t, none) := by
  unfold simulate_Conflicts_p
  rw [hc, Option.bind_some]
  simp only [Option.isSome_none, Bool.false_eq_true, if_false]
  have hj := hk.jobs
  rw [forAppN (n := t.Jobs.length) (base := []) (g := fun i => cfI t i t.Jobs.length) 24 (fun i _ => by have := cfI_len t i t.Jobs.length; omega)]
  · rw [List.nil_append]; rfl
  · intro i out hi ho
    simp only [List.length_nil] at ho
    have ho2 : t.Jobs.length * 24 ≤ 24 * 24 := Nat.mul_le_mul_right _ hj
    refine Ok.eq ?_
    rw [wrap_id (by omega) (by omega)]
    refine Ok.whl (fun q => ∃ b : Nat, q.1 = (b : Int) ∧ i < b ∧ b ≤ t.Jobs.length ∧ q.2 = out ++ cfI t i b) (fun q => q.2 = out ++ cfI t i t.Jobs.length) (fun _ => False) (fun q => (1000 - q.1).toNat) ⟨i + 1, by simp, by omega, by omega, by rw [cfI_nil, List.append_nil]⟩ ?_ (fun r hr => hr.elim) fun q hq => ⟨_, rfl, hq⟩
    rintro ⟨b', l⟩ ⟨b, rfl, hib, hbn, rfl⟩
    simp only [un2]
    refine Ok.ite (fun h => ?_) fun h => ⟨_, rfl, ?_⟩
    · have h := dec_t h
      have hb : b < t.Jobs.length := by omega
      have hl := cfI_len t i b
      rw [jn_idx hi, Option.bind_some, jn_idx hb, Option.bind_some, conflict_ok (hk.job _ (jn_mem hi)) (hk.job _ (jn_mem hb)), Option.bind_some, wrap_id (by omega) (by omega)]
      cases c : confB (jn t i) (jn t b)
      · refine ⟨_, rfl, ⟨b + 1, by simp, by omega, by omega, ?_⟩, by simp only; omega⟩
        rw [cfI_succ t hib, c]; simp
      · rw [if_pos rfl, app_ok (by simp; omega)]
        refine ⟨_, rfl, ⟨b + 1, by simp, by omega, by omega, ?_⟩, by simp only; omega⟩
        rw [cfI_succ t hib, c]; simp
    · have h := dec_f h
      have : b = t.Jobs.length := by omega
      subst this; rfl
end Go.Pw
/-
  Simulation: the reference's Check is the library's.
-/
namespace Go.Pw
theorem state_eq (v s : List Int) : base_State_p v s = task_Proper_p v s := by
  unfold base_State_p task_Proper_p
  simp only [Option.bind_assoc]
theorem named_eq (s : ByteArray) : ref55_named_p s = temporal_named_p s := rfl
theorem lists_eq (t : Temporal) : ref55_lists_p t = temporal_lists_p t := rfl
def FPat (vars : List Int) (l : List Fact) (j : Nat) : Prop := ∀ x, l[j]? = some x → 0 ≤ x.Var ∧ x.Var < vars.length ∧ 0 ≤ x.Val ∧ (∃ n, idx vars x.Var = some n ∧ x.Val < n) ∧ ∀ y, 0 < j → l[j - 1]? = some y → y.Var < x.Var
theorem Facts_fp (vars : List Int) (l : List Fact) : Ok (task_Facts_p vars l) fun b => b = true ↔ ∀ j, FPat vars l j := by
  unfold task_Facts_p
  refine Ok.ctl (fun j last => (∀ i, i < j → FPat vars l i) ∧ (j = 0 ∧ last = -1 ∨ 0 < j ∧ ∃ y, l[j - 1]? = some y ∧ last = y.Var ∧ 0 ≤ y.Var)) (fun r => r = false ∧ ¬ ∀ j, FPat vars l j) ⟨fun i h => by omega, .inl ⟨rfl, rfl⟩⟩ ?_ (fun r hr => ⟨r, rfl, by rw [hr.1]; exact ⟨(fun h => by cases h), fun h => absurd h hr.2⟩⟩) fun s hs => ⟨true, rfl, fun _ j => ?_, fun _ => rfl⟩
  · intro j last hj ⟨h1, h2⟩
    have hx := List.getElem?_eq_getElem hj
    obtain ⟨x, ex⟩ : ∃ x, l[j] = x := ⟨_, rfl⟩
    rw [ex] at hx
    refine Ok.step (a := x) (by rw [idx_nat, hx]) ?_
    have bad : ¬ (0 ≤ x.Var ∧ x.Var < vars.length ∧ 0 ≤ x.Val ∧ (∃ n, idx vars x.Var = some n ∧ x.Val < n) ∧ ∀ y, 0 < j → l[j - 1]? = some y → y.Var < x.Var) → ¬ ∀ j, FPat vars l j := fun hn h => hn (h j x hx)
    by_cases c1 : x.Var ≤ last
    · simp only [c1, decide_true, if_true, Option.bind_some]
      refine ⟨_, rfl, rfl, bad fun h => ?_⟩
      rcases h2 with ⟨rfl, rfl⟩ | ⟨h0, y, hy, rfl, _⟩
      · omega
      · have := h.2.2.2.2 y h0 hy; omega
    have hv0 : 0 ≤ x.Var := by rcases h2 with ⟨_, rfl⟩ | ⟨_, y, _, rfl, h3⟩ <;> omega
    by_cases c2 : (vars.length : Int) ≤ x.Var
    · simp only [c1, c2, decide_true, decide_false, Bool.false_eq_true, if_true, if_false, Option.bind_some]
      exact ⟨_, rfl, rfl, bad fun h => by omega⟩
    by_cases c3 : x.Val < 0
    · simp only [c1, c2, c3, decide_true, decide_false, Bool.false_eq_true, if_true, if_false, Option.bind_some]
      exact ⟨_, rfl, rfl, bad fun h => by omega⟩
    obtain ⟨n, hn, _⟩ := idx_some' (s := vars) (i := x.Var) hv0 (by omega)
    simp only [c1, c2, c3, hn, decide_true, decide_false, Bool.false_eq_true, if_true, if_false, Option.bind_some]
    refine Ok.ite (fun h => ⟨_, rfl, rfl, bad fun hh => ?_⟩) fun h => ⟨_, rfl, fun i hi => ?_, .inr ⟨by omega, x, by simpa using hx, rfl, hv0⟩⟩
    · obtain ⟨m, hm, hlt⟩ := hh.2.2.2.1
      rw [hn] at hm; cases hm
      have := dec_t h; omega
    · by_cases e : i = j
      · subst e
        intro x' hx'
        rw [hx] at hx'; cases hx'
        refine ⟨hv0, by omega, by omega, ⟨n, hn, by have := dec_f h; omega⟩, fun y h0 hy => ?_⟩
        rcases h2 with ⟨rfl, _⟩ | ⟨_, y', hy', rfl, _⟩
        · omega
        · rw [hy] at hy'; cases hy'; omega
      · exact h1 i (by omega)
  · by_cases hj : j < l.length
    · exact hs.1 j hj
    · intro x hx; rw [List.getElem?_eq_none (by omega)] at hx; cases hx
theorem Proper_fp (vars : List Int) (l : List Fact) (hl : l.length ≤ 1000000) : Ok (base_Proper_p vars l) fun b => b = true ↔ ∀ j, FPat vars l j := by
  unfold base_Proper_p
  refine Ok.ctl (fun j _ => ∀ i, i < j → FPat vars l i) (fun r => r = false ∧ ¬ ∀ j, FPat vars l j) (fun i h => by omega) ?_ (fun r hr => ⟨r, rfl, by rw [hr.1]; exact ⟨(fun h => by cases h), fun h => absurd h hr.2⟩⟩) fun s hs => ⟨true, rfl, fun _ j => ?_, fun _ => rfl⟩
  · intro j _ hj h1
    have hx := List.getElem?_eq_getElem hj
    obtain ⟨x, ex⟩ : ∃ x, l[j] = x := ⟨_, rfl⟩
    rw [ex] at hx
    refine Ok.step (a := x) (by rw [idx_nat, hx]) ?_
    have bad : ¬ (0 ≤ x.Var ∧ x.Var < vars.length ∧ 0 ≤ x.Val ∧ (∃ n, idx vars x.Var = some n ∧ x.Val < n) ∧ ∀ y, 0 < j → l[j - 1]? = some y → y.Var < x.Var) → ¬ ∀ j, FPat vars l j := fun hn h => hn (h j x hx)
    by_cases c1 : x.Var < 0
    · simp only [c1, decide_true, if_true, Option.bind_some]
      exact ⟨_, rfl, rfl, bad fun h => by omega⟩
    by_cases c2 : (vars.length : Int) ≤ x.Var
    · simp only [c1, c2, decide_true, decide_false, Bool.false_eq_true, if_true, if_false, Option.bind_some]
      exact ⟨_, rfl, rfl, bad fun h => by omega⟩
    by_cases c3 : x.Val < 0
    · simp only [c1, c2, c3, decide_true, decide_false, Bool.false_eq_true, if_true, if_false, Option.bind_some]
      exact ⟨_, rfl, rfl, bad fun h => by omega⟩
    obtain ⟨n, hn, _⟩ := idx_some' (s := vars) (i := x.Var) (by omega) (by omega)
    simp only [c1, c2, c3, hn, decide_false, Bool.false_eq_true, if_false, Option.bind_some]
    by_cases c4 : n ≤ x.Val
    · simp only [c4, decide_true, if_true, Option.bind_some]
      refine ⟨_, rfl, rfl, bad fun h => ?_⟩
      obtain ⟨m, hm, hlt⟩ := h.2.2.2.1
      rw [hn] at hm; cases hm; omega
    simp only [c4, decide_false, Bool.false_eq_true, if_false]
    have good : (∀ y, 0 < j → l[j - 1]? = some y → y.Var < x.Var) → ∀ i, i < j + 1 → FPat vars l i := fun hlast i hi => by
      by_cases e : i = j
      · subst e
        intro x' hx'
        rw [hx] at hx'; cases hx'
        exact ⟨by omega, by omega, by omega, ⟨n, hn, by omega⟩, hlast⟩
      · exact h1 i (by omega)
    by_cases c5 : 0 < j
    · have hy := List.getElem?_eq_getElem (show j - 1 < l.length by omega)
      have ew : IntKind.i64.wrap ((j : Int) - 1) = ((j - 1 : Nat) : Int) := by rw [wrap_id (by omega) (by omega)]; omega
      rw [if_pos (by simpa using c5), ew, idx_nat, hy, Option.bind_some, Option.bind_some]
      refine Ok.ite (fun h => ⟨_, rfl, rfl, bad fun hh => ?_⟩) fun h => ⟨_, rfl, good fun y _ hy' => ?_⟩
      · have := hh.2.2.2.2 _ c5 hy
        have := dec_t h; omega
      · rw [hy] at hy'; cases hy'
        have := dec_f h; omega
    · rw [if_neg (by simpa using c5), Option.bind_some]
      exact ⟨_, rfl, good fun y h => absurd h c5⟩
  · by_cases hj : j < l.length
    · exact hs j hj
    · intro x hx; rw [List.getElem?_eq_none (by omega)] at hx; cases hx
noncomputable def factsB (vars : List Int) (l : List Fact) : Bool := (task_Facts_p vars l).getD false
theorem facts_b (vars : List Int) (l : List Fact) : task_Facts_p vars l = some (factsB vars l) := by
  obtain ⟨b, h, _⟩ := Facts_fp vars l
  unfold factsB; rw [h]; rfl
theorem proper_b (vars : List Int) (l : List Fact) (hl : l.length ≤ 1000000) : base_Proper_p vars l = some (factsB vars l) := by
  obtain ⟨b, h, h1⟩ := Facts_fp vars l
  obtain ⟨c, g, g1⟩ := Proper_fp vars l hl
  unfold factsB
  rw [h, g]
  have : b = c := by rw [Bool.eq_iff_iff, h1, g1]
  rw [this]; rfl
noncomputable def namB (s : ByteArray) : Bool := (temporal_named_p s).getD false
noncomputable def prpB (t : Temporal) : Bool := (task_Proper_p t.Vars t.Init).getD false
noncomputable def chkC (t : Temporal) : Option Int :=
  if decide (64 < t.Vars.length) || decide (24 < t.Jobs.length) || (listsOf t).any (fun l => decide (64 < l.length)) then some 5
  else if !(t.Vars.all fun n => !(decide (n < 1) || decide (64 < n))) then some 1
  else if !(t.Jobs.all fun j : Job => !(decide (j.Duration < 1) || decide (62 < j.Duration))) then some 1
  else if !(prpB t && (listsOf t).all (factsB t.Vars)) then some 2
  else if !(t.Jobs.all fun j => namB j.Name) then some 8 else none
section
variable {t : Temporal}
theorem vars_loop {R β : Type} {r : R} {kr : R → Option β} {k : Unit → Option β} : ctl (forC (R := R) (fun i100 => fun (_ : Unit) => (idx t.Vars (i100 : Int)).bind fun x100 => if ((decide (x100 < 1)) || decide (64 < x100)) then (some (Ctl.ret r)) else (some (Ctl.next ()))) (t.Vars.length) 0 ()) kr k = if (t.Vars.all fun n => !(decide (n < 1) || decide (64 < n))) then k () else kr r := by
  refine ctl_list (p := fun n => !(decide (n < 1) || decide (64 < n))) fun j x hx => ?_
  rw [idx_nat, hx, Option.bind_some]
  by_cases c : (decide (x < 1) || decide (64 < x)) = true
  · rw [if_pos c, c]; rfl
  · rw [if_neg c, Bool.eq_false_iff.2 c]; rfl
theorem dur_loop {R β : Type} {r : R} {kr : R → Option β} {k : Unit → Option β} : ctl (forC (R := R) (fun i100 => fun (_ : Unit) => (idx t.Jobs (i100 : Int)).bind fun x100 => if ((decide (x100.Duration < 1)) || decide (62 < x100.Duration)) then (some (Ctl.ret r)) else (some (Ctl.next ()))) (t.Jobs.length) 0 ()) kr k = if (t.Jobs.all fun j : Job => !(decide (j.Duration < 1) || decide (62 < j.Duration))) then k () else kr r := by
  refine ctl_list (p := fun j : Job => !(decide (j.Duration < 1) || decide (62 < j.Duration))) fun j x hx => ?_
  rw [idx_nat, hx, Option.bind_some]
  by_cases c : (decide (x.Duration < 1) || decide (62 < x.Duration)) = true
  · rw [if_pos c, c]; rfl
  · rw [if_neg c, Bool.eq_false_iff.2 c]; rfl
theorem nam_b (ht : Tight t) {j : Job} (hj : j ∈ t.Jobs) : temporal_named_p j.Name = some (namB j.Name) := by
  obtain ⟨b, h, _⟩ := named_ok (ht.name j hj)
  unfold namB; rw [h]; rfl
theorem nam_loop (ht : Tight t) {R β : Type} {r : R} {kr : R → Option β} {k : Unit → Option β} : ctl (forC (R := R) (fun i100 => fun (_ : Unit) => (idx t.Jobs (i100 : Int)).bind fun x100 => (temporal_named_p x100.Name).bind <| fun (y104 : Bool) => if !y104 then (some (Ctl.ret r)) else (some (Ctl.next ()))) (t.Jobs.length) 0 ()) kr k = if (t.Jobs.all fun j => namB j.Name) then k () else kr r := by
  refine ctl_list (p := fun j : Job => namB j.Name) fun j x hx => ?_
  rw [idx_nat, hx, Option.bind_some, nam_b ht (List.mem_of_getElem? hx), Option.bind_some]
  cases namB x.Name <;> rfl
theorem prp_b : task_Proper_p t.Vars t.Init = some (prpB t) := by
  obtain ⟨b, h, _⟩ := Proper_ok t.Vars t.Init
  unfold prpB; rw [h]; rfl
theorem contains1_eq (l : List (List Fact)) : slices_ContainsFunc_apiFact_Check_c1_p l = some (l.any fun x => decide (64 < x.length)) := by
  unfold slices_ContainsFunc_apiFact_Check_c1_p slices_IndexFunc_apiFact_Check_c1_p
  rw [any_list (p := fun x : List Fact => decide (64 < x.length))]
  intro j x hx
  rw [idx_nat, hx]
  simp only [Option.bind_some, temporal_Check_c1_t]
  by_cases c : 64 < x.length
  · rw [if_pos (by simp; omega), if_pos (by simpa using c)]
  · rw [if_neg (by simp; omega), if_neg (by simpa using c)]
theorem contains2_eq (l : List (List Fact)) : slices_ContainsFunc_apiFact_Check_c2_p l t = some (!l.all (factsB t.Vars)) := by
  unfold slices_ContainsFunc_apiFact_Check_c2_p slices_IndexFunc_apiFact_Check_c2_p
  rw [any_list (p := fun x => !factsB t.Vars x)]
  · rw [List.all_eq_not_any_not, Bool.not_not]
  · intro j x hx
    rw [idx_nat, hx]
    simp only [Option.bind_some, temporal_Check_c2_p, facts_b]
    cases factsB t.Vars x <;> rfl
theorem Check_c (ht : Tight t) : temporal_Check_p t = some (chkC t) := by
  unfold temporal_Check_p chkC
  rw [lists_ok ht.jobs, Option.bind_some, contains1_eq, vars_loop, dur_loop, prp_b, contains2_eq, nam_loop ht]
  have e1 : decide (64 < (t.Vars.length : Int)) = decide (64 < t.Vars.length) := by simp; omega
  have e2 : decide (24 < (t.Jobs.length : Int)) = decide (24 < t.Jobs.length) := by simp; omega
  rw [e1, e2]
  simp only [Option.bind_some]
  generalize decide (64 < t.Vars.length) = a1
  generalize decide (24 < t.Jobs.length) = a2
  generalize (listsOf t).any _ = a3
  generalize t.Vars.all _ = a4
  generalize t.Jobs.all (fun j : Job => !(decide (j.Duration < 1) || decide (62 < j.Duration))) = a5
  generalize prpB t = a6
  generalize (listsOf t).all _ = a7
  generalize t.Jobs.all _ = a8
  cases a1 <;> cases a2 <;> cases a3 <;> cases a4 <;> cases a5 <;> cases a6 <;> cases a7 <;> cases a8 <;> rfl
theorem Check_ref (ht : Tight t) : ref55_Check_p t = some ((chkC t).getD 0) := by
  unfold ref55_Check_p chkC
  rw [lists_eq, lists_ok ht.jobs]
  simp only [Option.bind_some, state_eq, named_eq]
  have e1 : decide (64 < (t.Vars.length : Int)) = decide (64 < t.Vars.length) := by simp; omega
  have e2 : decide (24 < (t.Jobs.length : Int)) = decide (24 < t.Jobs.length) := by simp; omega
  rw [e1, e2, vars_loop, dur_loop, prp_b, nam_loop ht]
  have h1 : ∀ {β : Type} {kr : Int → Option β} {k : Unit → Option β}, ctl (forC (R := Int) (fun i100 => fun (_ : Unit) => (idx (listsOf t) (i100 : Int)).bind fun x100 => if decide (64 < (x100.length : Int)) then (some (Ctl.ret 5)) else (some (Ctl.next ()))) ((listsOf t).length) 0 ()) kr k = if (!(listsOf t).any fun l => decide (64 < l.length)) then k () else kr 5 := by
    intro β kr k
    rw [ctl_list (p := fun l : List Fact => !decide (64 < l.length)) (r := 5)]
    · rw [List.all_eq_not_any_not]; simp
    · intro j x hx
      rw [idx_nat, hx, Option.bind_some]
      by_cases c : 64 < x.length
      · rw [if_pos (by simp; omega), if_neg (by simpa using c)]
      · rw [if_neg (by simp; omega), if_pos (by simp; omega)]
  rw [h1]
  by_cases hbig : (listsOf t).any (fun l => decide (64 < l.length)) = true
  · rw [hbig]
    simp only [Bool.or_true, if_true, Option.getD_some, Bool.not_true, Bool.false_eq_true, if_false]
    split <;> rfl
  · have hall : ∀ l ∈ listsOf t, l.length ≤ 64 := fun l hl => by
      have := List.any_eq_false.1 (Bool.eq_false_iff.2 hbig) l hl
      simp at this; exact this
    rw [Bool.eq_false_iff.2 hbig]
    have h2 : ∀ {β : Type} {kr : Int → Option β} {k : Unit → Option β}, ctl (forC (R := Int) (fun i103 => fun (_ : Unit) => (idx (listsOf t) (i103 : Int)).bind fun x103 => (base_Proper_p t.Vars x103).bind <| fun (y103 : Bool) => if !y103 then (some (Ctl.ret 2)) else (some (Ctl.next ()))) ((listsOf t).length) 0 ()) kr k = if (listsOf t).all (factsB t.Vars) then k () else kr 2 := by
      intro β kr k
      refine ctl_list (p := factsB t.Vars) fun j x hx => ?_
      rw [idx_nat, hx, Option.bind_some, proper_b _ _ (by have := hall x (List.mem_of_getElem? hx); omega), Option.bind_some]
      cases factsB t.Vars x <;> rfl
    simp only [Option.bind_some]
    rw [h2]
    generalize decide (64 < t.Vars.length) = a1
    generalize decide (24 < t.Jobs.length) = a2
    generalize t.Vars.all _ = a4
    generalize t.Jobs.all (fun j : Job => !(decide (j.Duration < 1) || decide (62 < j.Duration))) = a5
    generalize prpB t = a6
    generalize (listsOf t).all _ = a7
    generalize t.Jobs.all _ = a8
    cases a1 <;> cases a2 <;> cases a4 <;> cases a5 <;> cases a6 <;> cases a7 <;> cases a8 <;> rfl
theorem chkC_nz {z : Int} (ht : Tight t) (h : chkC t = some z) : z ≠ 0 := by
  obtain ⟨e, h1, h2⟩ := Check_codes ht
  rw [Check_c ht] at h1
  cases h1
  have := h2 z h
  omega
end
end Go.Pw
/-
  P58.1: SimulateConflicts (plain).
-/
namespace Go.Pw
theorem touches_ok (l : List Fact) (v : Int) : ref58_touches_p l v = some (l.any fun f => decide (f.Var = v)) := by
  unfold ref58_touches_p
  rw [ctl_list (p := fun f : Fact => !decide (f.Var = v)) (r := true)]
  · rw [List.all_eq_not_any_not]
    simp only [Bool.not_not]
    cases l.any _ <;> rfl
  · intro j x hx
    rw [idx_nat, hx, Option.bind_some]
    by_cases c : x.Var = v <;> simp [c]
theorem Rwr (j : Job) (e : Bool) : ref55_Writes_t j e = wrH j e := by unfold ref55_Writes_t wrH; cases e <;> rfl
theorem Rrd (j : Job) (e : Bool) : ref55_Reads_t j e = rdH j e := by unfold ref55_Reads_t rdH; cases e <;> rfl
theorem Rmeet (a b : List Fact) : ref55_meet_p a b = some (meetB a b) := by
  unfold ref55_meet_p
  rw [ctl_list (p := fun x : Fact => !b.any fun y => decide (x.Var = y.Var)) (r := true)]
  · rw [List.all_eq_not_any_not]
    simp only [Bool.not_not]
    unfold meetB
    cases a.any _ <;> rfl
  · intro j x hx
    rw [idx_nat, hx, Option.bind_some, ctl_list (p := fun y : Fact => !decide (x.Var = y.Var)) (r := true)]
    · rw [List.all_eq_not_any_not]
      simp only [Bool.not_not]
      cases b.any _ <;> rfl
    · intro k y hy
      rw [idx_nat, hy, Option.bind_some]
      by_cases c : x.Var = y.Var <;> simp [c]
theorem Rint (a b : Job) (e f : Bool) : ref55_Interfere_p a b e f = some (intB a b e f) := by
  unfold ref55_Interfere_p intB
  simp only [Rwr, Rrd, Rmeet, Option.bind_some]
  cases meetB (wrH a e) (wrH b f) <;> cases meetB (wrH a e) (rdH b f) <;> cases meetB (rdH a e) (wrH b f) <;> rfl
theorem spoils_ok (j : Job) (l : List Fact) : ref58_spoils_p j l = some (meetB (wrH j false) l || meetB (wrH j true) l) := by
  unfold ref58_spoils_p
  rw [ctl_list (p := fun f : Fact => !(j.AtStart.any (fun g => decide (g.Var = f.Var)) || j.AtEnd.any fun g => decide (g.Var = f.Var))) (r := true)]
  · have e : (l.all fun f : Fact => !(j.AtStart.any (fun g => decide (g.Var = f.Var)) || j.AtEnd.any fun g => decide (g.Var = f.Var))) = !(meetB (wrH j false) l || meetB (wrH j true) l) := by
      rw [List.all_eq_not_any_not]
      simp only [Bool.not_not]
      congr 1
      rw [Bool.eq_iff_iff, Bool.or_eq_true, meetB_iff, meetB_iff, List.any_eq_true]
      simp only [Bool.or_eq_true, List.any_eq_true, decide_eq_true_eq]
      constructor
      · rintro ⟨f, hf, ⟨g, hg, e⟩ | ⟨g, hg, e⟩⟩
        · exact .inl ⟨g, hg, f, hf, e⟩
        · exact .inr ⟨g, hg, f, hf, e⟩
      · rintro (⟨g, hg, f, hf, e⟩ | ⟨g, hg, f, hf, e⟩)
        · exact ⟨f, hf, .inl ⟨g, hg, e⟩⟩
        · exact ⟨f, hf, .inr ⟨g, hg, e⟩⟩
    rw [e]
    cases (meetB (wrH j false) l || meetB (wrH j true) l) <;> rfl
  · intro k x hx
    rw [idx_nat, hx, Option.bind_some, touches_ok, touches_ok]
    cases j.AtStart.any _ <;> cases j.AtEnd.any _ <;> rfl
theorem Rconf (a b : Job) : ref58_Conflict_p a b = some (confB a b) := by
  unfold ref58_Conflict_p
  rw [ctl_list (p := fun ea => !([false, true].any fun eb => intB a b ea eb)) (r := true)]
  · rw [spoils_ok, spoils_ok]
    unfold confB
    simp only [Option.bind_some, List.all_cons, List.all_nil, List.any_cons, List.any_nil, Bool.or_false, Bool.and_true]
    cases intB a b false false <;> cases intB a b false true <;> cases intB a b true false <;> cases intB a b true true <;> cases meetB (wrH a false) b.Over <;> cases meetB (wrH b false) a.Over <;> cases meetB (wrH a true) b.Over <;> cases meetB (wrH b true) a.Over <;> rfl
  · intro j ea hea
    rw [idx_nat, hea, Option.bind_some]
    rw [ctl_list (p := fun eb => !(intB a b ea eb)) (r := true)]
    · simp only [List.all_cons, List.all_nil, List.any_cons, List.any_nil, Bool.or_false, Bool.and_true]
      cases intB a b ea false <;> cases intB a b ea true <;> rfl
    · intro k eb heb
      rw [idx_nat, heb, Option.bind_some, Rint, Option.bind_some]
      cases intB a b ea eb <;> rfl
theorem simulateConflicts_ok {fu : Nat} (hfu : 1000 ≤ fu) (t : Temporal) : law58_SimulateConflicts_p fu t = some true := by
  unfold law58_SimulateConflicts_p
  refine law_hd hfu fun ht _ => ?_
  have hc := Check_c ht
  rw [Check_ref ht]
  cases hz : chkC t with
  | some z =>
    have hz0 := chkC_nz ht hz
    rw [hz] at hc
    unfold simulate_Conflicts_p
    rw [hc]
    simp [un2, hz0, num_ok]
  | none =>
    rw [hz] at hc
    obtain ⟨e, h1, h2⟩ := Check_ok ht
    rw [hc] at h1; cases h1
    have hk := h2 rfl
    rw [Conflicts_ok hc hk]
    simp only [Option.bind_some, un2, Option.getD_none, decide_true, Bool.not_true, Bool.false_eq_true, if_false]
    have hj := hk.jobs
    have pre : ∀ i, i < t.Jobs.length → ∃ post, cfL t = (List.range i).flatMap (fun i => cfI t i t.Jobs.length) ++ cfI t i t.Jobs.length ++ post := fun i hi => by
      unfold cfL
      have e : List.range t.Jobs.length = List.range (i + 1) ++ (List.range (t.Jobs.length - (i + 1))).map (i + 1 + ·) := by
        rw [← List.range_add]; congr 1; omega
      refine ⟨((List.range (t.Jobs.length - (i + 1))).map (i + 1 + ·)).flatMap fun i => cfI t i t.Jobs.length, ?_⟩
      conv => lhs; rw [e]
      rw [List.flatMap_append, List.range_succ, List.flatMap_append]
      simp
    have inn : ∀ i d b, i < b → b + d ≤ t.Jobs.length → ∃ q, cfI t i (b + d) = cfI t i b ++ q := by
      intro i d
      induction d with
      | zero => intro b _ _; exact ⟨[], by simp⟩
      | succ d ih =>
        intro b h1 h2
        obtain ⟨q, hq⟩ := ih b h1 (by omega)
        rw [← Nat.add_assoc, cfI_succ t (by omega), hq]
        exact ⟨_, by rw [List.append_assoc]⟩
    have plen : ∀ i, i ≤ t.Jobs.length → ((List.range i).flatMap (fun i => cfI t i t.Jobs.length)).length ≤ 576 := fun i hi => by
      have := flatMap_le (l := List.range i) (k := 24) (f := fun i => cfI t i t.Jobs.length) fun x _ => by have := cfI_len t x t.Jobs.length; omega
      rw [List.length_range] at this
      have : i * 24 ≤ 24 * 24 := Nat.mul_le_mul_right _ (by omega)
      omega
    refine Ok.eq (Ok.ctl (fun i k => k = (((List.range i).flatMap fun i => cfI t i t.Jobs.length).length : Int)) (fun _ => False) rfl ?_ (fun r hr => hr.elim) fun k hk => ⟨_, rfl, by rw [hk]; unfold cfL; simp⟩)
    rintro i k hi rfl
    obtain ⟨post, hpost⟩ := pre i hi
    have hpl := plen i (by omega)
    obtain ⟨pr, hpr⟩ : ∃ pr, (List.range i).flatMap (fun i => cfI t i t.Jobs.length) = pr := ⟨_, rfl⟩
    rw [hpr] at hpost hpl ⊢
    rw [wrap_id (n := (i : Int) + 1) (by omega) (by omega)]
    refine Ok.whl (fun q => ∃ b : Nat, q.2 = (b : Int) ∧ i < b ∧ b ≤ t.Jobs.length ∧ q.1 = ((pr ++ cfI t i b).length : Int)) (fun q => q.1 = ((pr ++ cfI t i t.Jobs.length).length : Int)) (fun _ => False) (fun q => (1000 - q.2).toNat) ⟨i + 1, by simp, by omega, by omega, by rw [cfI_nil, List.append_nil]⟩ ?_ (fun r hr => hr.elim) fun q hq => ⟨_, rfl, by show q.1 = _; rw [hq, List.range_succ, List.flatMap_append, hpr]; simp⟩
    rintro ⟨k, b'⟩ ⟨b, hb', hib, hbn, hk'⟩
    simp only at hb' hk'
    subst hb'; subst hk'
    simp only [un2]
    refine Ok.ite (fun h => ?_) fun h => ⟨_, rfl, ?_⟩
    · have h := dec_t h
      have hb : b < t.Jobs.length := by omega
      rw [jn_idx hi, Option.bind_some, jn_idx hb, Option.bind_some, Rconf, Option.bind_some, wrap_id (n := (b : Int) + 1) (by omega) (by omega)]
      cases c : confB (jn t i) (jn t b)
      · refine ⟨_, rfl, ⟨b + 1, by simp, by omega, by omega, ?_⟩, by simp only; omega⟩
        rw [cfI_succ t hib, c]; simp
      · have hs := cfI_succ t hib
        rw [c] at hs
        obtain ⟨q, hq⟩ := inn i (t.Jobs.length - (b + 1)) (b + 1) (by omega) (by omega)
        rw [show b + 1 + (t.Jobs.length - (b + 1)) = t.Jobs.length by omega, hs] at hq
        have hget : (cfL t)[(pr ++ cfI t i b).length]? = some ⟨(i : Int), (b : Int)⟩ := by
          rw [hpost, hq]
          have e : pr ++ (cfI t i b ++ (if true = true then [(⟨(i : Int), (b : Int)⟩ : Arr2_int)] else []) ++ q) ++ post = (pr ++ cfI t i b) ++ ((⟨(i : Int), (b : Int)⟩ : Arr2_int) :: (q ++ post)) := by simp
          rw [e, List.getElem?_append_right (Nat.le_refl _), Nat.sub_self]; rfl
        have hlt := (List.getElem?_eq_some_iff.1 hget).1
        have hcl := cfI_len t i b
        rw [if_neg (by simp), if_neg (by simp only [decide_eq_true_eq]; omega), idx_nat, hget, Option.bind_some]
        rw [show eqs [(i : Int), (b : Int)] [(i : Int), (b : Int)] = true by simp [eqs]]
        rw [Option.bind_some, if_neg (by simp), wrap_id (by rw [List.length_append]; omega) (by rw [List.length_append]; omega)]
        refine ⟨_, rfl, ⟨b + 1, by simp, by omega, by omega, ?_⟩, by simp only; omega⟩
        rw [hs]; simp; omega
    · have h := dec_f h
      have : b = t.Jobs.length := by omega
      subst this; rfl
end Go.Pw
