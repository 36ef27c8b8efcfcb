/-
  P58.1: what Conflicts returns (plain).
-/
import Derived.Test.YthbgcahoknmmmaaGreatRzSG
set_option linter.unusedVariables false
set_option linter.unusedSimpArgs false
namespace Go.Pw
def jn (t : Temporal) (k : Nat) : Job := t.Jobs[k]!
end Go.Pw
/-
  Simulation: the reference's Check is the library's.
-/
namespace Go.Pw
theorem state_eq (v s : List Int) : base_State_p v s = task_Proper_p v s := by
  unfold base_State_p task_Proper_p
  simp only [Option.bind_assoc]
theorem named_eq (s : ByteArray) : ref55_named_p s = temporal_named_p s := rfl
theorem lists_eq (t : Temporal) : ref55_lists_p t = temporal_lists_p t := rfl
def FPat (vars : List Int) (l : List Fact) (j : Nat) : Prop := ∀ x, l[j]? = some x → 0 ≤ x.Var ∧ x.Var < vars.length ∧ 0 ≤ x.Val ∧ (∃ n, idx vars x.Var = some n ∧ x.Val < n) ∧ ∀ y, 0 < j → l[j - 1]? = some y → y.Var < x.Var
theorem Facts_fp (vars : List Int) (l : List Fact) : Ok (task_Facts_p vars l) fun b => b = true ↔ ∀ j, FPat vars l j := by
  unfold task_Facts_p
  refine Ok.ctl (fun j last => (∀ i, i < j → FPat vars l i) ∧ (j = 0 ∧ last = -1 ∨ 0 < j ∧ ∃ y, l[j - 1]? = some y ∧ last = y.Var ∧ 0 ≤ y.Var)) (fun r => r = false ∧ ¬ ∀ j, FPat vars l j) ⟨fun i h => by omega, .inl ⟨rfl, rfl⟩⟩ ?_ (fun r hr => ⟨r, rfl, by rw [hr.1]; exact ⟨(fun h => by cases h), fun h => absurd h hr.2⟩⟩) fun s hs => ⟨true, rfl, fun _ j => ?_, fun _ => rfl⟩
  · intro j last hj ⟨h1, h2⟩
    have hx := List.getElem?_eq_getElem hj
    obtain ⟨x, ex⟩ : ∃ x, l[j] = x := ⟨_, rfl⟩
    rw [ex] at hx
    refine Ok.step (a := x) (by rw [idx_nat, hx]) ?_
    have bad : ¬ (0 ≤ x.Var ∧ x.Var < vars.length ∧ 0 ≤ x.Val ∧ (∃ n, idx vars x.Var = some n ∧ x.Val < n) ∧ ∀ y, 0 < j → l[j - 1]? = some y → y.Var < x.Var) → ¬ ∀ j, FPat vars l j := fun hn h => hn (h j x hx)
    by_cases c1 : x.Var ≤ last
    · simp only [c1, decide_true, if_true, Option.bind_some]
      refine ⟨_, rfl, rfl, bad fun h => ?_⟩
      rcases h2 with ⟨rfl, rfl⟩ | ⟨h0, y, hy, rfl, _⟩
      · omega
      · have := h.2.2.2.2 y h0 hy; omega
    have hv0 : 0 ≤ x.Var := by rcases h2 with ⟨_, rfl⟩ | ⟨_, y, _, rfl, h3⟩ <;> omega
    by_cases c2 : (vars.length : Int) ≤ x.Var
    · simp only [c1, c2, decide_true, decide_false, Bool.false_eq_true, if_true, if_false, Option.bind_some]
      exact ⟨_, rfl, rfl, bad fun h => by omega⟩
    by_cases c3 : x.Val < 0
    · simp only [c1, c2, c3, decide_true, decide_false, Bool.false_eq_true, if_true, if_false, Option.bind_some]
      exact ⟨_, rfl, rfl, bad fun h => by omega⟩
    obtain ⟨n, hn, _⟩ := idx_some' (s := vars) (i := x.Var) hv0 (by omega)
    simp only [c1, c2, c3, hn, decide_true, decide_false, Bool.false_eq_true, if_true, if_false, Option.bind_some]
    refine Ok.ite (fun h => ⟨_, rfl, rfl, bad fun hh => ?_⟩) fun h => ⟨_, rfl, fun i hi => ?_, .inr ⟨by omega, x, by simpa using hx, rfl, hv0⟩⟩
    · obtain ⟨m, hm, hlt⟩ := hh.2.2.2.1
      rw [hn] at hm; cases hm
      have := dec_t h; omega
    · by_cases e : i = j
      · subst e
        intro x' hx'
        rw [hx] at hx'; cases hx'
        refine ⟨hv0, by omega, by omega, ⟨n, hn, by have := dec_f h; omega⟩, fun y h0 hy => ?_⟩
        rcases h2 with ⟨rfl, _⟩ | ⟨_, y', hy', rfl, _⟩
        · omega
        · rw [hy] at hy'; cases hy'; omega
      · exact h1 i (by omega)
  · by_cases hj : j < l.length
    · exact hs.1 j hj
    · intro x hx; rw [List.getElem?_eq_none (by omega)] at hx; cases hx
theorem Proper_fp (vars : List Int) (l : List Fact) (hl : l.length ≤ 1000000) : Ok (base_Proper_p vars l) fun b => b = true ↔ ∀ j, FPat vars l j := by
  unfold base_Proper_p
  refine Ok.ctl (fun j _ => ∀ i, i < j → FPat vars l i) (fun r => r = false ∧ ¬ ∀ j, FPat vars l j) (fun i h => by omega) ?_ (fun r hr => ⟨r, rfl, by rw [hr.1]; exact ⟨(fun h => by cases h), fun h => absurd h hr.2⟩⟩) fun s hs => ⟨true, rfl, fun _ j => ?_, fun _ => rfl⟩
  · intro j _ hj h1
    have hx := List.getElem?_eq_getElem hj
    obtain ⟨x, ex⟩ : ∃ x, l[j] = x := ⟨_, rfl⟩
    rw [ex] at hx
    refine Ok.step (a := x) (by rw [idx_nat, hx]) ?_
    have bad : ¬ (0 ≤ x.Var ∧ x.Var < vars.length ∧ 0 ≤ x.Val ∧ (∃ n, idx vars x.Var = some n ∧ x.Val < n) ∧ ∀ y, 0 < j → l[j - 1]? = some y → y.Var < x.Var) → ¬ ∀ j, FPat vars l j := fun hn h => hn (h j x hx)
    by_cases c1 : x.Var < 0
    · simp only [c1, decide_true, if_true, Option.bind_some]
      exact ⟨_, rfl, rfl, bad fun h => by omega⟩
    by_cases c2 : (vars.length : Int) ≤ x.Var
    · simp only [c1, c2, decide_true, decide_false, Bool.false_eq_true, if_true, if_false, Option.bind_some]
      exact ⟨_, rfl, rfl, bad fun h => by omega⟩
    by_cases c3 : x.Val < 0
    · simp only [c1, c2, c3, decide_true, decide_false, Bool.false_eq_true, if_true, if_false, Option.bind_some]
      exact ⟨_, rfl, rfl, bad fun h => by omega⟩
    obtain ⟨n, hn, _⟩ := idx_some' (s := vars) (i := x.Var) (by omega) (by omega)
    simp only [c1, c2, c3, hn, decide_false, Bool.false_eq_true, if_false, Option.bind_some]
    by_cases c4 : n ≤ x.Val
    · simp only [c4, decide_true, if_true, Option.bind_some]
      refine ⟨_, rfl, rfl, bad fun h => ?_⟩
      obtain ⟨m, hm, hlt⟩ := h.2.2.2.1
      rw [hn] at hm; cases hm; omega
    simp only [c4, decide_false, Bool.false_eq_true, if_false]
    have good : (∀ y, 0 < j → l[j - 1]? = some y → y.Var < x.Var) → ∀ i, i < j + 1 → FPat vars l i := fun hlast i hi => by
      by_cases e : i = j
      · subst e
        intro x' hx'
        rw [hx] at hx'; cases hx'
        exact ⟨by omega, by omega, by omega, ⟨n, hn, by omega⟩, hlast⟩
      · exact h1 i (by omega)
    by_cases c5 : 0 < j
    · have hy := List.getElem?_eq_getElem (show j - 1 < l.length by omega)
      have ew : IntKind.i64.wrap ((j : Int) - 1) = ((j - 1 : Nat) : Int) := by rw [wrap_id (by omega) (by omega)]; omega
      rw [if_pos (by simpa using c5), ew, idx_nat, hy, Option.bind_some, Option.bind_some]
      refine Ok.ite (fun h => ⟨_, rfl, rfl, bad fun hh => ?_⟩) fun h => ⟨_, rfl, good fun y _ hy' => ?_⟩
      · have := hh.2.2.2.2 _ c5 hy
        have := dec_t h; omega
      · rw [hy] at hy'; cases hy'
        have := dec_f h; omega
    · rw [if_neg (by simpa using c5), Option.bind_some]
      exact ⟨_, rfl, good fun y h => absurd h c5⟩
  · by_cases hj : j < l.length
    · exact hs j hj
    · intro x hx; rw [List.getElem?_eq_none (by omega)] at hx; cases hx
noncomputable def factsB (vars : List Int) (l : List Fact) : Bool := (task_Facts_p vars l).getD false
theorem facts_b (vars : List Int) (l : List Fact) : task_Facts_p vars l = some (factsB vars l) := by
  obtain ⟨b, h, _⟩ := Facts_fp vars l
  unfold factsB; rw [h]; rfl
theorem proper_b (vars : List Int) (l : List Fact) (hl : l.length ≤ 1000000) : base_Proper_p vars l = some (factsB vars l) := by
  obtain ⟨b, h, h1⟩ := Facts_fp vars l
  obtain ⟨c, g, g1⟩ := Proper_fp vars l hl
  unfold factsB
  rw [h, g]
  have : b = c := by rw [Bool.eq_iff_iff, h1, g1]
  rw [this]; rfl
noncomputable def namB (s : ByteArray) : Bool := (temporal_named_p s).getD false
noncomputable def prpB (t : Temporal) : Bool := (task_Proper_p t.Vars t.Init).getD false
noncomputable def chkC (t : Temporal) : Option Int :=
  if decide (64 < t.Vars.length) || decide (24 < t.Jobs.length) || (listsOf t).any (fun l => decide (64 < l.length)) then some 5
  else if !(t.Vars.all fun n => !(decide (n < 1) || decide (64 < n))) then some 1
  else if !(t.Jobs.all fun j : Job => !(decide (j.Duration < 1) || decide (62 < j.Duration))) then some 1
  else if !(prpB t && (listsOf t).all (factsB t.Vars)) then some 2
  else if !(t.Jobs.all fun j => namB j.Name) then some 8 else none
section
variable {t : Temporal}
theorem vars_loop {R β : Type} {r : R} {kr : R → Option β} {k : Unit → Option β} : ctl (forC (R := R) (fun i100 => fun (_ : Unit) => (idx t.Vars (i100 : Int)).bind fun x100 => if ((decide (x100 < 1)) || decide (64 < x100)) then (some (Ctl.ret r)) else (some (Ctl.next ()))) (t.Vars.length) 0 ()) kr k = if (t.Vars.all fun n => !(decide (n < 1) || decide (64 < n))) then k () else kr r := by
  refine ctl_list (p := fun n => !(decide (n < 1) || decide (64 < n))) fun j x hx => ?_
  rw [idx_nat, hx, Option.bind_some]
  by_cases c : (decide (x < 1) || decide (64 < x)) = true
  · rw [if_pos c, c]; rfl
  · rw [if_neg c, Bool.eq_false_iff.2 c]; rfl
theorem dur_loop {R β : Type} {r : R} {kr : R → Option β} {k : Unit → Option β} : ctl (forC (R := R) (fun i100 => fun (_ : Unit) => (idx t.Jobs (i100 : Int)).bind fun x100 => if ((decide (x100.Duration < 1)) || decide (62 < x100.Duration)) then (some (Ctl.ret r)) else (some (Ctl.next ()))) (t.Jobs.length) 0 ()) kr k = if (t.Jobs.all fun j : Job => !(decide (j.Duration < 1) || decide (62 < j.Duration))) then k () else kr r := by
  refine ctl_list (p := fun j : Job => !(decide (j.Duration < 1) || decide (62 < j.Duration))) fun j x hx => ?_
  rw [idx_nat, hx, Option.bind_some]
  by_cases c : (decide (x.Duration < 1) || decide (62 < x.Duration)) = true
  · rw [if_pos c, c]; rfl
  · rw [if_neg c, Bool.eq_false_iff.2 c]; rfl
theorem nam_b (ht : Tight t) {j : Job} (hj : j ∈ t.Jobs) : temporal_named_p j.Name = some (namB j.Name) := by
  obtain ⟨b, h, _⟩ := named_ok (ht.name j hj)
  unfold namB; rw [h]; rfl
theorem nam_loop (ht : Tight t) {R β : Type} {r : R} {kr : R → Option β} {k : Unit → Option β} : ctl (forC (R := R) (fun i100 => fun (_ : Unit) => (idx t.Jobs (i100 : Int)).bind fun x100 => (temporal_named_p x100.Name).bind <| fun (y104 : Bool) => if !y104 then (some (Ctl.ret r)) else (some (Ctl.next ()))) (t.Jobs.length) 0 ()) kr k = if (t.Jobs.all fun j => namB j.Name) then k () else kr r := by
  refine ctl_list (p := fun j : Job => namB j.Name) fun j x hx => ?_
  rw [idx_nat, hx, Option.bind_some, nam_b ht (List.mem_of_getElem? hx), Option.bind_some]
  cases namB x.Name <;> rfl
theorem prp_b : task_Proper_p t.Vars t.Init = some (prpB t) := by
  obtain ⟨b, h, _⟩ := Proper_ok t.Vars t.Init
  unfold prpB; rw [h]; rfl
theorem contains1_eq (l : List (List Fact)) : slices_ContainsFunc_apiFact_Check_c1_p l = some (l.any fun x => decide (64 < x.length)) := by
  unfold slices_ContainsFunc_apiFact_Check_c1_p slices_IndexFunc_apiFact_Check_c1_p
  rw [any_list (p := fun x : List Fact => decide (64 < x.length))]
  intro j x hx
  rw [idx_nat, hx]
  simp only [Option.bind_some, temporal_Check_c1_t]
  by_cases c : 64 < x.length
  · rw [if_pos (by simp; omega), if_pos (by simpa using c)]
  · rw [if_neg (by simp; omega), if_neg (by simpa using c)]
theorem contains2_eq (l : List (List Fact)) : slices_ContainsFunc_apiFact_Check_c2_p l t = some (!l.all (factsB t.Vars)) := by
  unfold slices_ContainsFunc_apiFact_Check_c2_p slices_IndexFunc_apiFact_Check_c2_p
  rw [any_list (p := fun x => !factsB t.Vars x)]
  · rw [List.all_eq_not_any_not, Bool.not_not]
  · intro j x hx
    rw [idx_nat, hx]
    simp only [Option.bind_some, temporal_Check_c2_p, facts_b]
    cases factsB t.Vars x <;> rfl
theorem Check_c (ht : Tight t) : temporal_Check_p t = some (chkC t) := by
  unfold temporal_Check_p chkC
  rw [lists_ok ht.jobs, Option.bind_some, contains1_eq, vars_loop, dur_loop, prp_b, contains2_eq, nam_loop ht]
  have e1 : decide (64 < (t.Vars.length : Int)) = decide (64 < t.Vars.length) := by simp; omega
  have e2 : decide (24 < (t.Jobs.length : Int)) = decide (24 < t.Jobs.length) := by simp; omega
  rw [e1, e2]
  simp only [Option.bind_some]
  generalize decide (64 < t.Vars.length) = a1
  generalize decide (24 < t.Jobs.length) = a2
  generalize (listsOf t).any _ = a3
  generalize t.Vars.all _ = a4
  generalize t.Jobs.all (fun j : Job => !(decide (j.Duration < 1) || decide (62 < j.Duration))) = a5
  generalize prpB t = a6
  generalize (listsOf t).all _ = a7
  generalize t.Jobs.all _ = a8
  cases a1 <;> cases a2 <;> cases a3 <;> cases a4 <;> cases a5 <;> cases a6 <;> cases a7 <;> cases a8 <;> rfl
theorem Check_ref (ht : Tight t) : ref55_Check_p t = some ((chkC t).getD 0) := by
  unfold ref55_Check_p chkC
  rw [lists_eq, lists_ok ht.jobs]
  simp only [Option.bind_some, state_eq, named_eq]
  have e1 : decide (64 < (t.Vars.length : Int)) = decide (64 < t.Vars.length) := by simp; omega
  have e2 : decide (24 < (t.Jobs.length : Int)) = decide (24 < t.Jobs.length) := by simp; omega
  rw [e1, e2, vars_loop, dur_loop, prp_b, nam_loop ht]
  have h1 : ∀ {β : Type} {kr : Int → Option β} {k : Unit → Option β}, ctl (forC (R := Int) (fun i100 => fun (_ : Unit) => (idx (listsOf t) (i100 : Int)).bind fun x100 => if decide (64 < (x100.length : Int)) then (some (Ctl.ret 5)) else (some (Ctl.next ()))) ((listsOf t).length) 0 ()) kr k = if (!(listsOf t).any fun l => decide (64 < l.length)) then k () else kr 5 := by
    intro β kr k
    rw [ctl_list (p := fun l : List Fact => !decide (64 < l.length)) (r := 5)]
    · rw [List.all_eq_not_any_not]; simp
    · intro j x hx
      rw [idx_nat, hx, Option.bind_some]
      by_cases c : 64 < x.length
      · rw [if_pos (by simp; omega), if_neg (by simpa using c)]
      · rw [if_neg (by simp; omega), if_pos (by simp; omega)]
  rw [h1]
  by_cases hbig : (listsOf t).any (fun l => decide (64 < l.length)) = true
  · rw [hbig]
    simp only [Bool.or_true, if_true, Option.getD_some, Bool.not_true, Bool.false_eq_true, if_false]
    split <;> rfl
  · have hall : ∀ l ∈ listsOf t, l.length ≤ 64 := fun l hl => by
      have := List.any_eq_false.1 (Bool.eq_false_iff.2 hbig) l hl
      simp at this; exact this
    rw [Bool.eq_false_iff.2 hbig]
    have h2 : ∀ {β : Type} {kr : Int → Option β} {k : Unit → Option β}, ctl (forC (R := Int) (fun i103 => fun (_ : Unit) => (idx (listsOf t) (i103 : Int)).bind fun x103 => (base_Proper_p t.Vars x103).bind <| fun (y103 : Bool) => if !y103 then (some (Ctl.ret 2)) else (some (Ctl.next ()))) ((listsOf t).length) 0 ()) kr k = if (listsOf t).all (factsB t.Vars) then k () else kr 2 := by
      intro β kr k
      refine ctl_list (p := factsB t.Vars) fun j x hx => ?_
      rw [idx_nat, hx, Option.bind_some, proper_b _ _ (by have := hall x (List.mem_of_getElem? hx); omega), Option.bind_some]
      cases factsB t.Vars x <;> rfl
    simp only [Option.bind_some]
    rw [h2]
    generalize decide (64 < t.Vars.length) = a1
    generalize decide (24 < t.Jobs.length) = a2
    generalize t.Vars.all _ = a4
    generalize t.Jobs.all (fun j : Job => !(decide (j.Duration < 1) || decide (62 < j.Duration))) = a5
    generalize prpB t = a6
    generalize (listsOf t).all _ = a7
    generalize t.Jobs.all _ = a8
    cases a1 <;> cases a2 <;> cases a4 <;> cases a5 <;> cases a6 <;> cases a7 <;> cases a8 <;> rfl
theorem chkC_nz {z : Int} (ht : Tight t) (h : chkC t = some z) : z ≠ 0 := by
  obtain ⟨e, h1, h2⟩ := Check_codes ht
  rw [Check_c ht] at h1
  cases h1
  have := h2 z h
  omega
end
end Go.Pw
/-
  P58.1: SimulateConflicts (plain).
-/
namespace Go.Pw
theorem touches_ok (l : List Fact) (v : Int) : ref58_touches_p l v = some (l.any fun f => decide (f.Var = v)) := by
  unfold ref58_touches_p
  rw [ctl_list (p := fun f : Fact => !decide (f.Var = v)) (r := true)]
  · rw [List.all_eq_not_any_not]
    simp only [Bool.not_not]
    cases l.any _ <;> rfl
  · intro j x hx
    rw [idx_nat, hx, Option.bind_some]
    by_cases c : x.Var = v <;> simp [c]
theorem Rwr (j : Job) (e : Bool) : ref55_Writes_t j e = wrH j e := by unfold ref55_Writes_t wrH; cases e <;> rfl
theorem Rrd (j : Job) (e : Bool) : ref55_Reads_t j e = rdH j e := by unfold ref55_Reads_t rdH; cases e <;> rfl
end Go.Pw
/-
  P58.1: SimulateRuns (plain): what the reference returns.
-/
namespace Go.Pw
def okR (t : Temporal) (l : Launch) : Bool := decide (0 ≤ l.Job ∧ l.Job < t.Jobs.length ∧ 0 ≤ l.At ∧ l.At ≤ 1048576)
theorem acceptR {t : Temporal} {L : List Launch} {c : Option Int} (hc : temporal_Check_p t = some c) (hl : L.length ≤ 4096) : temporal_accept_p t L = some (if c.isSome then c else if L.all (okR t) then none else some 1) := by
  unfold temporal_accept_p
  rw [hc, Option.bind_some]
  cases c with
  | some z => rfl
  | none =>
    simp only [Option.isSome_none, Bool.false_eq_true, if_false]
    rw [if_neg (by simp; omega), ctl_list (p := okR t) (r := some 1)]
    · split <;> rfl
    · intro j x hx
      rw [idx_nat, hx, Option.bind_some]
      unfold okR
      by_cases h : 0 ≤ x.Job ∧ x.Job < t.Jobs.length ∧ 0 ≤ x.At ∧ x.At ≤ 1048576
      · rw [if_neg (by simp; omega), if_pos (decide_eq_true h)]
      · rw [if_pos (by simp; omega), if_neg (by simpa using h)]
theorem RLaunches {t : Temporal} {L : List Launch} (hl : L.length ≤ 4096) : ref55_Launches_p t L = some (if L.all (okR t) then 0 else 1) := by
  unfold ref55_Launches_p
  rw [if_neg (by simp; omega), ctl_list (p := okR t) (r := 1)]
  · split <;> rfl
  · intro j x hx
    rw [idx_nat, hx, Option.bind_some]
    unfold okR
    by_cases h : 0 ≤ x.Job ∧ x.Job < t.Jobs.length ∧ 0 ≤ x.At ∧ x.At ≤ 1048576
    · rw [if_neg (by simp; omega), if_pos (decide_eq_true h)]
    · rw [if_pos (by simp; omega), if_neg (by simpa using h)]
section
variable {t : Temporal} {L : List Launch} {a : Int} {s s' : List Int} {T : List Int}
theorem acc_all (hA : Acc t L) : L.all (okR t) = true := by
  rw [List.all_eq_true]
  intro l hl
  have := hA.ok l hl
  exact decide_eq_true ⟨this.j0, this.j1, this.a0, this.a1⟩
theorem REnd (hA : Acc t L) {l : Launch} (h : LOK t l) : ref55_End_p t l = some (endT t l) := by
  have := end_ok hA.chk h
  unfold temporal_end_p at this
  unfold ref55_End_p
  exact this
theorem RMakespan (hA : Acc t L) : ref55_Makespan_p t L = some (mkS t L) := by
  unfold ref55_Makespan_p
  have h : Ok (forS (fun i100 => fun (m100 : Int) => (idx L (i100 : Int)).bind fun x100 => (ref55_End_p t x100).bind <| fun (y100 : Int) => some (max m100 y100)) (L.length) 0 0) (fun r => r = mkS t L) := by
    refine Ok.forL (fun l m => m = l.foldl (fun m l => max m (endT t l)) 0) rfl ?_ fun s hs => hs
    rintro j l x m hx _ rfl
    refine Ok.step (by rw [idx_nat]; exact hx) (Ok.step (REnd hA (hA.ok x (List.mem_of_getElem? hx))) ⟨_, rfl, ?_⟩)
    rw [List.foldl_append]; rfl
  obtain ⟨r, h1, rfl⟩ := h
  rw [h1]; rfl
/-- The next time of an event. -/
def NxP (t : Temporal) (L : List Launch) (last v : Int) : Prop := last < v ∧ ∃ l ∈ L, l.At = v ∨ endT t l = v
theorem next_ok (hA : Acc t L) (last : Int) : Ok (forS (fun i100 => fun (next100 : Int) => (idx L (i100 : Int)).bind fun x100 =>
    (ref55_End_p t x100).bind <| fun (y100 : Int) =>
    (forS (fun i101 => fun (next101 : Int) => (idx [x100.At, y100] (i101 : Int)).bind fun x101 =>
    (if ((decide (last < x101)) && ((decide (next101 < 0)) || decide (x101 < next101))) then (some x101)
    else (some next101)).bind (fun (next102 : Int) => some next102)) ([x100.At, y100].length) 0 next100).bind (fun (next101 : Int) => some next101)) (L.length) 0 (-1)) (LeastV (NxP t L last)) := by
  refine Ok.forL (fun l r => LeastV (NxP t l last) r) (LeastV.none.congr fun v _ => ⟨fun h => h.elim, fun ⟨_, l, hl, _⟩ => by simp at hl⟩) ?_ fun r h => h
  intro j l x r hx hl hr
  have hk := hA.ok x (List.mem_of_getElem? hx)
  have he := endT_gt hA.chk hk
  have h0 := hk.a0
  refine Ok.step (by rw [idx_nat]; exact hx) (Ok.step (REnd hA hk) (Ok.bind ?_))
  have one : ∀ (y r : Int) (P : Int → Prop), 0 ≤ y → LeastV P r → ∃ r', (if ((decide (last < y)) && ((decide (r < 0)) || decide (y < r))) then (some y) else (some r)) = some r' ∧ LeastV (fun v => P v ∨ (last < v ∧ v = y)) r' := fun y r P hy hP => by
    by_cases c : last < y
    · have h1 := hP.or (LeastV.one hy)
      refine ⟨_, ?_, h1.congr fun v _ => ⟨fun h => h.elim .inl fun h => .inr ⟨by omega, h⟩, fun h => h.elim .inl fun h => .inr h.2⟩⟩
      by_cases c2 : r < 0 ∨ y < r
      · rw [if_pos (by simp [c]; exact c2), if_pos ⟨hy, c2⟩]
      · rw [if_neg (by simp [c]; omega), if_neg (fun h => c2 h.2)]
    · refine ⟨r, by rw [if_neg (by simp [c])], hP.congr fun v _ => ⟨.inl, fun h => h.elim id fun h => by omega⟩⟩
  obtain ⟨r1, e1, k1⟩ := one x.At r _ h0 hr
  obtain ⟨r2, e2, k2⟩ := one (endT t x) r1 _ (by omega) k1
  have i0 : idx [x.At, endT t x] ((0 : Nat) : Int) = some x.At := rfl
  have i1 : idx [x.At, endT t x] ((0 + 1 : Nat) : Int) = some (endT t x) := rfl
  refine ⟨r2, ?_, r2, rfl, k2.congr fun v _ => ?_⟩
  · show forS _ 2 0 r = _
    simp only [forS, i0, i1, Option.bind_some, e1, e2]
  · unfold NxP
    constructor
    · rintro ((⟨h1, l', h2, h3⟩ | ⟨h1, h2⟩) | ⟨h1, h2⟩)
      · exact ⟨h1, l', by simp [h2], h3⟩
      · exact ⟨h1, x, by simp, .inl h2.symm⟩
      · exact ⟨h1, x, by simp, .inr h2.symm⟩
    · rintro ⟨h1, l', h2, h3⟩
      rcases List.mem_append.1 h2 with h2 | h2
      · exact .inl (.inl ⟨h1, l', h2, h3⟩)
      · rw [List.mem_singleton] at h2
        subst h2
        rcases h3 with h3 | h3
        · exact .inl (.inr ⟨h1, h3.symm⟩)
        · exact .inr ⟨h1, h3.symm⟩
theorem tick_memR {a : Int} : (∃ x : Nat × Bool, x.1 < L.length ∧ tmH t L x = a) ↔ ∃ l ∈ L, l.At = a ∨ endT t l = a := by
  constructor
  · rintro ⟨⟨i, b⟩, hi, e⟩
    refine ⟨lau L i, lau_mem hi, ?_⟩
    cases b with
    | true => exact .inr e
    | false => exact .inl e
  · rintro ⟨l, hl, e⟩
    obtain ⟨i, hi, rfl⟩ := List.mem_iff_getElem.1 hl
    have el : lau L i = L[i] := by simp [lau, hi]
    rcases e with e | e
    · exact ⟨(i, false), hi, by simp [tmH, el, e]⟩
    · exact ⟨(i, true), hi, by simp [tmH, el, e]⟩
theorem RTicks (hA : Acc t L) (hn : L.length ≤ 40) (hT : Ticks t L T) : ref55_Ticks_p t L = some T := by
  unfold ref55_Ticks_p
  have hp := List.pairwise_iff_getElem.1 hT.asc
  have h0 : ∀ a ∈ T, 0 ≤ a := fun a ha => by
    obtain ⟨x, hx, rfl⟩ := (hT.mem a).1 ha
    exact (tm_le hA hx).1
  have htl := ticks_len hT
  refine Ok.eq (Ok.whl (fun q => ∃ k, k ≤ T.length ∧ q.1 = T.take k ∧ (k = 0 ∧ q.2 = -1 ∨ ∃ h : k - 1 < T.length, 0 < k ∧ q.2 = T[k - 1])) (fun _ => False) (fun r => r = T) (fun q => T.length - q.1.length) ⟨0, Nat.zero_le _, by simp, .inl ⟨rfl, rfl⟩⟩ ?_ (fun r hr => ⟨r, rfl, hr⟩) fun q hq => hq.elim)
  rintro ⟨out, last⟩ ⟨k, hk, ho, hl⟩
  simp only at ho hl
  subst ho
  simp only [un2]
  have hlt : ∀ j (hj : j < T.length), last < T[j] ↔ k ≤ j := fun j hj => by
    rcases hl with ⟨rfl, rfl⟩ | ⟨h, hk0, rfl⟩
    · have := h0 _ (List.getElem_mem hj)
      exact ⟨fun _ => Nat.zero_le _, fun _ => by omega⟩
    · constructor
      · intro hh
        rcases Nat.lt_or_ge j k with c | c
        · by_cases e : j = k - 1
          · subst e; omega
          · have := hp j (k - 1) hj h (by omega); omega
        · exact c
      · intro hh
        exact hp (k - 1) j h hj (by omega)
  refine Ok.bind ((next_ok hA last).mono fun r hr => ?_)
  rcases hr with ⟨rfl, h2⟩ | ⟨h1, h2, h3⟩
  · rw [if_pos (by simp)]
    refine ⟨_, rfl, ?_⟩
    show T.take k = T
    have : k = T.length := by
      rcases Nat.lt_or_ge k T.length with c | c
      · exfalso
        have hm := (hT.mem T[k]).1 (List.getElem_mem c)
        rw [tick_memR] at hm
        exact h2 T[k] (h0 _ (List.getElem_mem c)) ⟨(hlt k c).2 (Nat.le_refl _), hm⟩
      · omega
    rw [this, List.take_length]
  · rw [if_neg (by simp; omega)]
    obtain ⟨g1, g2⟩ := h2
    have hm : r ∈ T := (hT.mem r).2 (tick_memR.2 g2)
    obtain ⟨j, hj, rfl⟩ := List.mem_iff_getElem.1 hm
    have hkj := (hlt j hj).1 g1
    have hkT : k < T.length := by omega
    have hmk := (hT.mem T[k]).1 (List.getElem_mem hkT)
    rw [tick_memR] at hmk
    have hle := h3 T[k] (h0 _ (List.getElem_mem hkT)) ⟨(hlt k hkT).2 (Nat.le_refl _), hmk⟩
    have hjk : j = k := by
      rcases Nat.lt_or_ge k j with c | c
      · have := hp k j hkT hj c; omega
      · omega
    subst hjk
    refine Ok.step (app_ok (by rw [List.length_take]; simp; omega)) ⟨_, rfl, ⟨j + 1, hj, (take_snoc hj).symm, .inr ⟨by simpa using hj, by omega, by simp⟩⟩, ?_⟩
    simp only [List.length_append, List.length_take, List.length_singleton]
    omega
theorem RAt (hA : Acc t L) (hn : L.length ≤ 40) : ref55_At_p t L a = some ((cn t L a).map fun x => ⟨(x.1 : Int), x.2⟩) := by
  unfold ref55_At_p
  have hj := hA.chk.jobs
  have cj : ∀ e j, (cnJ t L a e j).length ≤ L.length := fun e j => by
    unfold cnJ; rw [List.length_map]
    have := List.length_filter_le (fun i => decide ((lau L i).Job = (j : Int) ∧ tmH t L (i, e) = a)) (List.range L.length)
    simpa using this
  have ce : ∀ e, (cnE t L a e).length ≤ 960 := fun e => by
    have := flatMap_le (l := List.range t.Jobs.length) (k := 40) (f := fun j => cnJ t L a e j) fun j _ => by have := cj e j; omega
    rw [List.length_range] at this
    unfold cnE
    have : t.Jobs.length * 40 ≤ 24 * 40 := Nat.mul_le_mul_right _ hj
    omega
  have hin : ∀ (e : Bool) (out : List ref55_Happening), out.length ≤ 10000 → forS (fun i101 => fun (l101 : (List ref55_Happening)) => (forS (fun i102 => fun (l102 : (List ref55_Happening)) => (idx L (i102 : Int)).bind fun x101 =>
      (if decide (x101.Job = (i101 : Int)) then (if e then ((ref55_End_p t x101).bind <| fun (y100 : Int) =>
      if decide (y100 = a) then (some true)
      else (some false))
      else (some (decide (x101.At = a))))
      else (some false)).bind (fun (z100 : Bool) => (if z100 then ((app 16 l102 [(⟨(i102 : Int), e⟩ : ref55_Happening)]).bind fun l103 =>
      some l103)
      else (some l102)).bind (fun (l104 : (List ref55_Happening)) => some l104))) (L.length) 0 l101).bind (fun (l102 : (List ref55_Happening)) => some l102)) (t.Jobs.length) 0 out = some (out ++ (cnE t L a e).map fun x => ⟨(x.1 : Int), x.2⟩) := by
    intro e out hout
    have hf : (cnE t L a e).map (fun x => (⟨(x.1 : Int), x.2⟩ : ref55_Happening)) = (List.range t.Jobs.length).flatMap fun j => (cnJ t L a e j).map fun x => (⟨(x.1 : Int), x.2⟩ : ref55_Happening) := by unfold cnE; rw [List.map_flatMap]
    rw [hf]
    refine forAppN 40 (fun j _ => by rw [List.length_map]; have := cj e j; omega) fun j out1 hjl ho1 => ?_
    have ho1' : t.Jobs.length * 40 ≤ 24 * 40 := Nat.mul_le_mul_right _ hj
    have hJ : (cnJ t L a e j).map (fun x => (⟨(x.1 : Int), x.2⟩ : ref55_Happening)) = (List.range L.length).flatMap fun i => if decide ((lau L i).Job = (j : Int) ∧ tmH t L (i, e) = a) then [(⟨(i : Int), e⟩ : ref55_Happening)] else [] := by
      unfold cnJ
      rw [List.map_map]
      generalize List.range L.length = R
      induction R with
      | nil => rfl
      | cons i R ih =>
        rw [List.filter_cons, List.flatMap_cons, ← ih]
        split <;> simp
    rw [hJ]
    rw [forAppN (n := L.length) (base := out1) (g := fun i => if decide ((lau L i).Job = (j : Int) ∧ tmH t L (i, e) = a) then [(⟨(i : Int), e⟩ : ref55_Happening)] else []) 1 (fun i _ => by split <;> simp)]
    · rfl
    · intro i out2 hi ho2
      rw [idx_nat, lau_get hi, Option.bind_some, REnd hA (hA.ok _ (lau_mem hi))]
      have ec : (if decide ((lau L i).Job = (j : Int)) then (if e then ((some (endT t (lau L i))).bind <| fun (y100 : Int) => if decide (y100 = a) then (some true) else (some false)) else (some (decide ((lau L i).At = a)))) else (some false)) = some (decide ((lau L i).Job = (j : Int) ∧ tmH t L (i, e) = a)) := by
        by_cases c1 : (lau L i).Job = (j : Int)
        · cases e
          · simp [c1, tmH]
          · by_cases c2 : endT t (lau L i) = a <;> simp [c1, c2, tmH]
        · simp [c1]
      rw [ec, Option.bind_some]
      by_cases c : ((lau L i).Job = (j : Int) ∧ tmH t L (i, e) = a)
      · rw [if_pos (decide_eq_true c), app_ok (by simp; omega)]
        simp [c]
      · rw [if_neg (by simpa using c)]
        simp [c]
  refine Ok.eq (Ok.bind (Ok.forS (fun i r => r = ((([true, false] : List Bool).take i).flatMap fun e => cnE t L a e).map fun x => (⟨(x.1 : Int), x.2⟩ : ref55_Happening)) rfl ?_ fun s' h => ⟨s', rfl, by rw [h]; simp [cn]⟩))
  rintro i s1 hi rfl
  have hi2 : i < 2 := hi
  rw [idx_nat, List.getElem?_eq_getElem hi, Option.bind_some]
  have hlen : (((([true, false] : List Bool).take i).flatMap fun e => cnE t L a e).map fun x => (⟨(x.1 : Int), x.2⟩ : ref55_Happening)).length ≤ 10000 := by
    rw [List.length_map]
    have h1 := flatMap_le (l := ([true, false] : List Bool).take i) (k := 960) (f := fun e => cnE t L a e) fun e _ => ce e
    rw [List.length_take] at h1
    simp only [List.length_cons, List.length_nil] at h1
    omega
  rw [take_snoc hi, List.flatMap_append, List.map_append]
  generalize ([true, false] : List Bool)[i] = e
  rw [hin e _ hlen]
  exact ⟨_, rfl, by simp⟩
theorem RAfter (hA : Acc t L) (hn : L.length ≤ 40) (hs : s.length = t.Vars.length) : ref55_After_p t L a s = some (aftX t L a s) := by
  unfold ref55_After_p
  have hv := hA.chk.vars
  rw [app_ok (by simp; omega), Option.bind_some, List.nil_append, RAt hA hn, Option.bind_some]
  refine Ok.eq (Ok.bind ?_)
  rw [List.length_map]
  refine Ok.forL (fun ys s' => s' = wrAll t L ys s) rfl ?_ fun s' h => ⟨s', rfl, h⟩
  rintro j ys x s1 hx rfl rfl
  have hm := (mem_cn hA).1 (List.mem_of_getElem? hx)
  have hl1 : (wrAll t L ((cn t L a).take j) s).length = t.Vars.length := by rw [wrAll_len, hs]
  refine Ok.step (a := ⟨(x.1 : Int), x.2⟩) (by rw [idx_nat, List.getElem?_map, hx]; rfl) ?_
  refine Ok.step (a := lau L x.1) (by simp only; rw [idx_nat]; exact lau_get hm.1) (Ok.step (jb_idx (hA.ok _ (lau_mem hm.1))) ?_)
  have e : ref55_Writes_t (jb t (lau L x.1)) x.2 = wrX t L x := Rwr _ _
  simp only [e]
  rw [facts_eq (wrX_rng hA hm.1 hl1)]
  refine ⟨_, rfl, ?_⟩
  rw [wrAll_append]; rfl
def evR (t : Temporal) (L : List Launch) (x : Nat × Bool) : ref58_Event := ⟨tmH t L x, (x.1 : Int), x.2⟩
theorem evE_flat (e : Bool) : (evE t L a e).map (evR t L) = (List.range L.length).flatMap fun i => if decide (tmH t L (i, e) = a) then [(⟨a, (i : Int), e⟩ : ref58_Event)] else [] := by
  unfold evE
  rw [List.map_map]
  generalize List.range L.length = R
  induction R with
  | nil => rfl
  | cons i R ih =>
    rw [List.filter_cons, List.flatMap_cons, ← ih]
    by_cases c : tmH t L (i, e) = a
    · simp [c, evR]
    · simp [c]
theorem Revents (hA : Acc t L) (hn : L.length ≤ 40) : ref58_events_p t L a = some ((evI t L a).map (evR t L)) := by
  unfold ref58_events_p
  have h1 : forS (fun i100 => fun (out100 : (List ref58_Event)) => (idx L (i100 : Int)).bind fun x100 =>
      (ref55_End_p t x100).bind <| fun (y100 : Int) =>
      (if decide (y100 = a) then ((app 24 out100 [(⟨a, (i100 : Int), true⟩ : ref58_Event)]).bind fun l101 =>
      some l101)
      else (some out100)).bind (fun (l102 : (List ref58_Event)) => some l102)) (L.length) 0 [] = some ((evE t L a true).map (evR t L)) := by
    rw [forAppN (n := L.length) (base := []) (g := fun i => if decide (tmH t L (i, true) = a) then [(⟨a, (i : Int), true⟩ : ref58_Event)] else []) 1 (fun i _ => by split <;> simp)]
    · rw [evE_flat, List.nil_append]
    · intro i out hi ho
      simp only [List.length_nil] at ho
      rw [idx_nat, lau_get hi, Option.bind_some, REnd hA (hA.ok _ (lau_mem hi)), Option.bind_some]
      have e : tmH t L (i, true) = endT t (lau L i) := rfl
      rw [e]
      by_cases c : endT t (lau L i) = a
      · rw [if_pos (by simpa using c), app_ok (by simp; omega)]; simp [c]
      · rw [if_neg (by simpa using c)]; simp [c]
  rw [h1, Option.bind_some]
  have hl := evE_len (t := t) (L := L) (a := a) true
  rw [forAppN (n := L.length) (g := fun i => if decide (tmH t L (i, false) = a) then [(⟨a, (i : Int), false⟩ : ref58_Event)] else []) 1 (fun i _ => by split <;> simp)]
  · unfold evI
    rw [List.map_append, evE_flat false]; rfl
  · intro i out hi ho
    rw [List.length_map] at ho
    rw [idx_nat, lau_get hi, Option.bind_some]
    have e : tmH t L (i, false) = (lau L i).At := rfl
    rw [e]
    by_cases c : (lau L i).At = a
    · rw [if_pos (by simpa using c), app_ok (by simp; omega)]; simp [c]
    · rw [if_neg (by simpa using c)]; simp [c]
theorem hasV_any (l : List Fact) (v : Int) : (l.any fun f => decide (f.Var = v)) = true ↔ hasV l v := by
  unfold hasV
  rw [List.any_eq_true]
  simp only [decide_eq_true_eq]
theorem Rshared {i j : Job} (hi : JobOK t.Vars.length i) (hj : JobOK t.Vars.length j) (e f : Bool) : ref58_shared_p t i j e f = some (meetV i j e f) := by
  have hm := (meeting_ok hi hj e f).2
  unfold ref58_shared_p
  have hb : ∀ v : Int, (((ref58_touches_p (ref55_Writes_t i e) v).bind <| fun (y100 : Bool) =>
      if y100 then ((ref58_touches_p (ref55_Writes_t j f) v).bind <| fun (y101 : Bool) =>
      if y101 then (some true)
      else ((ref58_touches_p (ref55_Reads_t j f) v).bind <| fun (y102 : Bool) =>
      some y102))
      else (some false)).bind (fun (one100 : Bool) => (if one100 then (some true)
      else ((ref58_touches_p (ref55_Writes_t j f) v).bind <| fun (y103 : Bool) =>
      if y103 then ((ref58_touches_p (ref55_Reads_t i e) v).bind <| fun (y104 : Bool) =>
      some y104)
      else (some false))))) = some (((wrH i e).any (fun g => decide (g.Var = v)) && ((wrH j f).any (fun g => decide (g.Var = v)) || (rdH j f).any (fun g => decide (g.Var = v)))) || ((wrH j f).any (fun g => decide (g.Var = v)) && (rdH i e).any (fun g => decide (g.Var = v)))) := fun v => by
    simp only [Rwr, Rrd, touches_ok, Option.bind_some]
    cases (wrH i e).any _ <;> cases (wrH j f).any _ <;> cases (rdH j f).any _ <;> cases (rdH i e).any _ <;> rfl
  have hP : ∀ v : Int, (((wrH i e).any (fun g => decide (g.Var = v)) && ((wrH j f).any (fun g => decide (g.Var = v)) || (rdH j f).any (fun g => decide (g.Var = v)))) || ((wrH j f).any (fun g => decide (g.Var = v)) && (rdH i e).any (fun g => decide (g.Var = v)))) = true ↔ MeetP i j e f v := fun v => by
    unfold MeetP
    rw [Bool.or_eq_true, Bool.and_eq_true, Bool.or_eq_true, Bool.and_eq_true, hasV_any, hasV_any, hasV_any, hasV_any]
    constructor
    · rintro (⟨h1, h2 | h2⟩ | h)
      · exact .inl ⟨h1, h2⟩
      · exact .inr (.inl ⟨h1, h2⟩)
      · exact .inr (.inr h)
    · rintro (h | h | h)
      · exact .inl ⟨h.1, .inl h.2⟩
      · exact .inl ⟨h.1, .inr h.2⟩
      · exact .inr h
  refine Ok.eq (Ok.ctl (fun k _ => ∀ v : Nat, v < k → ¬ MeetP i j e f v) (fun r => r = meetV i j e f) (fun v h => by omega) ?_ (fun r hr => ⟨r, rfl, hr⟩) fun _ hn => ⟨_, rfl, ?_⟩)
  · intro k _ hk hin
    rw [← Option.bind_assoc, hb, Option.bind_some]
    refine Ok.ite (fun h => ⟨_, rfl, ?_⟩) fun h => ⟨_, rfl, fun v hv => ?_⟩
    · have h := (hP k).1 h
      refine LeastV.uniq (P := MeetP i j e f) (.inr ⟨by omega, h, fun v h0 hv => ?_⟩) hm
      rcases Int.lt_or_le v k with c | c
      · have := hin v.toNat (by omega)
        rw [show ((v.toNat : Nat) : Int) = v by omega] at this
        exact absurd hv this
      · exact c
    · by_cases c : v = k
      · subst c
        intro hh
        rw [(hP v).2 hh] at h; cases h
      · exact hin v (by omega)
  · refine LeastV.uniq (P := MeetP i j e f) (.inl ⟨rfl, fun v h0 hv => ?_⟩) hm
    have hw : ∀ (l : Job) (b : Bool), JobOK t.Vars.length l → hasV (wrH l b) v → v < t.Vars.length := fun l b hl ⟨g, hg, eg⟩ => by
      unfold wrH at hg
      split at hg
      · have := hl.atEnd.rng g hg; omega
      · have := hl.atStart.rng g hg; omega
    have hlt : v < t.Vars.length := by
      rcases hv with h | h | h
      · exact hw i e hi h.1
      · exact hw i e hi h.1
      · exact hw j f hj h.1
    have := hn v.toNat (by omega)
    rw [show ((v.toNat : Nat) : Int) = v by omega] at this
    exact this hv
theorem Rlacking {l : List Fact} (hl : FactsOK s.length l) (h64 : l.length ≤ 64) : ref58_lacking_p l s = some ((lackF l s).map Fact.Var) := by
  unfold ref58_lacking_p
  rw [forApp (g := fun x => if (!decide (idx s x.Var = some x.Val)) then [x.Var] else []) 1 (fun x _ => by split <;> simp)]
  · rw [List.nil_append, Option.bind_some]
    congr 1
    unfold lackF
    clear h64 hl
    induction l with
    | nil => rfl
    | cons x l ih =>
      rw [List.flatMap_cons, ih, List.filter_cons]
      split <;> simp
  · intro i x out hx ho
    simp only [List.length_nil] at ho
    have hr := hl.rng x (List.mem_of_getElem? hx)
    obtain ⟨y, hy, _⟩ := idx_some' (s := s) hr.1 hr.2
    rw [idx_nat, hx, Option.bind_some, hy, Option.bind_some]
    by_cases c : y = x.Val
    · simp [c]
    · rw [if_pos (by simpa using c), app_ok (by simp; omega)]
      simp [c]
def toR (p : simulate_Problem) : ref58_Problem := ⟨p.At, p.Kind, p.Launch, p.Other, p.Var⟩
theorem map_flat {α β γ : Type} (l : List α) (f : α → List β) (g : β → γ) : (l.flatMap f).map g = l.flatMap fun x => (f x).map g := List.map_flatMap
theorem Rproblems (hA : Acc t L) (hn : L.length ≤ 40) (hs : s.length = t.Vars.length) (hs' : s'.length = t.Vars.length) : ref58_problems_p t L a s s' = some ((probs t L a s s').map toR) := by
  have hev := evI_len (t := t) (L := L) (a := a)
  have l1 := ovL_len (t := t) (L := L) (a := a)
  have l2 := inL_len (t := t) (L := L) (a := a) hn
  have l3 := preL_len (a := a) hA hn (s := s)
  have hsq := sq_le hn
  have hg : ∀ {i : Nat} {x : Nat × Bool}, (evI t L a)[i]? = some x → ((evI t L a).map (evR t L))[i]? = some (evR t L x) := fun h => by rw [List.getElem?_map, h]; rfl
  unfold ref58_problems_p
  -- overlaps
  have hO : forS (fun i100 => fun (out100 : (List ref58_Problem)) => (idx L (i100 : Int)).bind fun x100 =>
      (forS (fun i101 => fun (l101 : (List ref58_Problem)) => (idx L (i101 : Int)).bind fun x101 =>
      (if decide (x100.At = a) then (if decide (x100.Job = x101.Job) then (if decide (x101.At < a) then ((ref55_End_p t x101).bind <| fun (y100 : Int) =>
      if decide (a ≤ y100) then (some true)
      else (if decide (x101.At = a) then (some (decide ((i101 : Int) < (i100 : Int))))
      else (some false)))
      else (if decide (x101.At = a) then (some (decide ((i101 : Int) < (i100 : Int))))
      else (some false)))
      else (some false))
      else (some false)).bind (fun (z100 : Bool) => (if z100 then ((app 40 l101 [(⟨a, 18, (i100 : Int), (i101 : Int), (-1)⟩ : ref58_Problem)]).bind fun l102 =>
      some l102)
      else (some l101)).bind (fun (l103 : (List ref58_Problem)) => some l103))) (L.length) 0 out100).bind (fun (l101 : (List ref58_Problem)) => some l101)) (L.length) 0 [] = some ((ovL t L a).map toR) := by
    have e : (ovL t L a).map toR = (List.range L.length).flatMap fun i => (List.range L.length).flatMap fun k => if ovB t L a i k then [(⟨a, 18, (i : Int), (k : Int), -1⟩ : ref58_Problem)] else [] := by
      unfold ovL
      rw [map_flat]
      congr 1; funext i
      rw [map_flat]
      congr 1; funext k
      split <;> rfl
    rw [e, forAppN (n := L.length) (base := []) (g := fun i => (List.range L.length).flatMap fun k => if ovB t L a i k then [(⟨a, 18, (i : Int), (k : Int), -1⟩ : ref58_Problem)] else []) L.length (fun i _ => by
      have := flatMap_le (l := List.range L.length) (k := 1) (f := fun k => if ovB t L a i k then [(⟨a, 18, (i : Int), (k : Int), -1⟩ : ref58_Problem)] else []) fun k _ => by split <;> simp
      simpa using this)]
    · rfl
    · intro i out hi hout
      simp only [List.length_nil] at hout
      rw [idx_nat, lau_get hi, Option.bind_some]
      rw [forAppN (n := L.length) (base := out) (g := fun k => if ovB t L a i k then [(⟨a, 18, (i : Int), (k : Int), -1⟩ : ref58_Problem)] else []) 1 (fun k _ => by split <;> simp)]
      · rfl
      · intro k out2 hk hout2
        rw [idx_nat, lau_get hk, Option.bind_some, REnd hA (hA.ok _ (lau_mem hk))]
        have ek := endT_gt hA.chk (hA.ok _ (lau_mem hk))
        have e : (if decide ((lau L i).At = a) then (if decide ((lau L i).Job = (lau L k).Job) then (if decide ((lau L k).At < a) then ((some (endT t (lau L k))).bind <| fun (y100 : Int) =>
            if decide (a ≤ y100) then (some true)
            else (if decide ((lau L k).At = a) then (some (decide ((k : Int) < (i : Int))))
            else (some false)))
            else (if decide ((lau L k).At = a) then (some (decide ((k : Int) < (i : Int))))
            else (some false)))
            else (some false))
            else (some false)) = some (ovB t L a i k) := by
          unfold ovB
          by_cases c1 : (lau L i).At = a
          · by_cases c3 : (lau L i).Job = (lau L k).Job
            · by_cases c4 : (lau L k).At < a
              · have c2 : k ≠ i := fun e => by subst e; omega
                by_cases c5 : a ≤ endT t (lau L k)
                · simp [c1, c2, c3, c4, c5]
                · have : ¬ (lau L k).At = a := by omega
                  simp [c1, c2, c3, c4, c5, this]
              · by_cases c6 : (lau L k).At = a
                · by_cases c7 : k < i
                  · have c2 : k ≠ i := by omega
                    simp [c1, c2, c3, c4, c6, c7]
                  · simp [c1, c3, c4, c6, c7]
                · simp [c1, c3, c4, c6]
            · simp [c1, c3]
          · simp [c1]
        rw [e, Option.bind_some]
        by_cases c : ovB t L a i k
        · rw [if_pos c, app_ok (by simp; omega)]
          simp [c]
        · rw [if_neg c]; simp [c]
  refine Ok.eq (Ok.bind (Ok.of hO ?_))
  refine Ok.step (Revents hA hn) ?_
  -- interference
  have hI : forS (fun i102 => fun (l104 : (List ref58_Problem)) => (idx ((evI t L a).map (evR t L)) (i102 : Int)).bind fun x102 =>
      (cut ((evI t L a).map (evR t L)) (IntKind.i64.wrap ((i102 : Int) + 1)) (((evI t L a).map (evR t L)).length : Int)).bind fun c100 =>
      (forS (fun i103 => fun (l105 : (List ref58_Problem)) => (idx c100 (i103 : Int)).bind fun x103 =>
      (idx L x102.Launch).bind fun x104 =>
      (idx t.Jobs x104.Job).bind fun x105 =>
      (idx L x103.Launch).bind fun x106 =>
      (idx t.Jobs x106.Job).bind fun x107 =>
      (ref58_shared_p t x105 x107 x102.End x103.End).bind <| fun (y102 : Int) =>
      (if decide (0 ≤ y102) then ((app 40 l105 [(⟨a, 17, x102.Launch, x103.Launch, y102⟩ : ref58_Problem)]).bind fun l106 =>
      some l106)
      else (some l105)).bind (fun (l107 : (List ref58_Problem)) => some l107)) (c100.length) 0 l104).bind (fun (l105 : (List ref58_Problem)) => some l105)) (((evI t L a).map (evR t L)).length) 0 ((ovL t L a).map toR) = some ((ovL t L a).map toR ++ (inL t L a).map toR) := by
    have e : (inL t L a).map toR = (List.range (evI t L a).length).flatMap fun i => (prsG (inP t L a) (evI t L a) i).map toR := by unfold inL prsI; rw [map_flat]
    rw [e, List.length_map]
    refine forAppN 80 (fun i hi => ?_) ?_
    · rw [List.length_map]
      have := prsG_len (inP_len (t := t) (L := L) (a := a)) (evI t L a) i
      omega
    · intro i out hi ho
      rw [List.length_map] at ho
      have gx := List.getElem?_eq_getElem hi
      have mx := mem_evI.1 (List.getElem_mem hi)
      rw [idx_nat, hg gx, Option.bind_some]
      rw [show ((evI t L a).length : Int) = (((evI t L a).map (evR t L)).length : Int) by simp, cut_drop (by simpa using hi) (by simp; omega), Option.bind_some, prsG_get gx, map_flat, ← List.map_drop, List.length_map]
      rw [forApp (xs := (evI t L a).drop (i + 1)) (base := out) (g := fun y => (inP t L a (evI t L a)[i] y).map toR) 1 (fun y _ => by rw [List.length_map]; exact inP_len _ y)]
      · rfl
      · intro k y out2 hy ho2
        rw [List.length_drop] at ho2
        have my := mem_evI.1 (List.mem_of_mem_drop (List.mem_of_getElem? hy))
        rw [idx_nat, List.getElem?_map, hy]
        simp only [Option.map_some, Option.bind_some]
        have e1 : (evR t L (evI t L a)[i]).Launch = ((evI t L a)[i].1 : Int) := rfl
        have e2 : (evR t L y).Launch = (y.1 : Int) := rfl
        have e3 : (evR t L (evI t L a)[i]).End = (evI t L a)[i].2 := rfl
        have e4 : (evR t L y).End = y.2 := rfl
        rw [e1, e2, e3, e4, idx_nat, lau_get mx.1, Option.bind_some, jb_idx (hA.ok _ (lau_mem mx.1)), Option.bind_some, idx_nat, lau_get my.1, Option.bind_some, jb_idx (hA.ok _ (lau_mem my.1)), Option.bind_some]
        rw [Rshared (hA.chk.job _ (jb_mem (hA.ok _ (lau_mem mx.1)))) (hA.chk.job _ (jb_mem (hA.ok _ (lau_mem my.1)))), Option.bind_some]
        unfold inP jH
        by_cases c : 0 ≤ meetV (jb t (lau L (evI t L a)[i].1)) (jb t (lau L y.1)) (evI t L a)[i].2 y.2
        · rw [if_pos c, if_pos (by simpa using c), app_ok (by simp; omega)]; rfl
        · rw [if_neg c, if_neg (by simpa using c)]; simp
  refine Ok.bind (Ok.of hI ?_)
  -- preconditions
  have hPre : ∀ (base : List ref58_Problem), base.length ≤ 20000000 → forS (fun i104 => fun (l108 : (List ref58_Problem)) => (idx ((evI t L a).map (evR t L)) (i104 : Int)).bind fun x108 =>
      (idx L x108.Launch).bind fun x109 =>
      (idx t.Jobs x109.Job).bind fun x110 =>
      (ref58_lacking_p (ref55_Reads_t x110 x108.End) s).bind <| fun (y103 : (List Int)) =>
      (forS (fun i105 => fun (l109 : (List ref58_Problem)) => (idx y103 (i105 : Int)).bind fun x111 =>
      (app 40 l109 [(⟨a, 12, x108.Launch, (-1), x111⟩ : ref58_Problem)]).bind fun l110 =>
      some l110) (y103.length) 0 l108).bind (fun (l109 : (List ref58_Problem)) => some l109)) (((evI t L a).map (evR t L)).length) 0 base = some (base ++ (preL t L a s).map toR) := by
    intro base hb
    have e : (preL t L a s).map toR = (evI t L a).flatMap fun x => ((lackF (rdX t L x) s).map Fact.Var).flatMap fun v => [(⟨a, 12, (x.1 : Int), -1, v⟩ : ref58_Problem)] := by
      unfold preL
      rw [map_flat]
      congr 1; funext x
      rw [map_flat, List.flatMap_map]; rfl
    rw [e, List.length_map]
    refine forApp 64 (fun x hx => ?_) ?_
    · rw [one_len, List.length_map]
      have := lackF_len (rdX t L x) s
      have := len64 (rdX_ok hA (mem_evI.1 hx).1) hA.chk.vars
      omega
    · intro i x out hx ho
      have mx := mem_evI.1 (List.mem_of_getElem? hx)
      have hl := len64 (rdX_ok hA mx.1) hA.chk.vars
      have e1 : (evR t L x).Launch = (x.1 : Int) := rfl
      have e3 : (evR t L x).End = x.2 := rfl
      rw [idx_nat, hg hx, Option.bind_some, e1, e3, idx_nat, lau_get mx.1, Option.bind_some, jb_idx (hA.ok _ (lau_mem mx.1)), Option.bind_some, Rrd]
      have e5 : rdH (jb t (lau L x.1)) x.2 = rdX t L x := rfl
      rw [e5, Rlacking (by rw [hs]; exact rdX_ok hA mx.1) hl, Option.bind_some]
      have := lackF_len (rdX t L x) s
      rw [forApp (xs := (lackF (rdX t L x) s).map Fact.Var) (base := out) (g := fun v => [(⟨a, 12, (x.1 : Int), -1, v⟩ : ref58_Problem)]) 1 (fun _ _ => by simp)]
      · rfl
      · intro k v out2 hf ho2
        rw [List.length_map] at ho2
        rw [idx_nat, hf, Option.bind_some, app_ok (by simp; omega)]
        rfl
  refine Ok.bind (Ok.of (hPre _ (by simp only [List.length_append, List.length_map]; omega)) ?_)
  -- conditions while it runs
  have hOv : ∀ (base : List ref58_Problem), base.length ≤ 30000000 → forS (fun i106 => fun (l111 : (List ref58_Problem)) => (idx L (i106 : Int)).bind fun x112 =>
      (if decide (a < x112.At) then (some true)
      else ((ref55_End_p t x112).bind <| fun (y104 : Int) =>
      some (decide (y104 ≤ a)))).bind (fun (z101 : Bool) => if z101 then (some l111)
      else ((idx t.Jobs x112.Job).bind fun x113 =>
      (ref58_lacking_p x113.Over s').bind <| fun (y105 : (List Int)) =>
      (forS (fun i107 => fun (l112 : (List ref58_Problem)) => (idx y105 (i107 : Int)).bind fun x114 =>
      (app 40 l112 [(⟨a, 16, (i106 : Int), (-1), x114⟩ : ref58_Problem)]).bind fun l113 =>
      some l113) (y105.length) 0 l111).bind (fun (l112 : (List ref58_Problem)) => some l112)))) (L.length) 0 base = some (base ++ (ovrL t L a s').map toR) := by
    intro base hb
    have e : (ovrL t L a s').map toR = (List.range L.length).flatMap fun i => if (lau L i).At ≤ a ∧ a < endT t (lau L i) then ((lackF (jb t (lau L i)).Over s').map Fact.Var).flatMap fun v => [(⟨a, 16, (i : Int), -1, v⟩ : ref58_Problem)] else [] := by
      unfold ovrL
      rw [map_flat]
      congr 1; funext i
      split
      · rw [map_flat, List.flatMap_map]; rfl
      · rfl
    rw [e]
    refine forAppN 64 (fun i hi => ?_) ?_
    · split
      · rw [one_len, List.length_map]
        have := lackF_len (jb t (lau L i)).Over s'
        have := over_len hA hi
        omega
      · simp
    · intro i out hi ho
      have hov := over_len hA hi
      rw [idx_nat, lau_get hi, Option.bind_some, REnd hA (hA.ok _ (lau_mem hi))]
      have e : (if decide (a < (lau L i).At) then (some true) else ((some (endT t (lau L i))).bind fun (y106 : Int) => some (decide (y106 ≤ a)))) = some (!decide ((lau L i).At ≤ a ∧ a < endT t (lau L i))) := by
        by_cases c1 : a < (lau L i).At
        · have c2 : ¬ (lau L i).At ≤ a := by omega
          simp [c1, c2]
        · have c2 : (lau L i).At ≤ a := by omega
          by_cases c3 : a < endT t (lau L i)
          · have c4 : ¬ endT t (lau L i) ≤ a := by omega
            simp [c1, c2, c3, c4]
          · have c4 : endT t (lau L i) ≤ a := by omega
            simp [c1, c2, c3, c4]
      rw [e, Option.bind_some]
      by_cases c : (lau L i).At ≤ a ∧ a < endT t (lau L i)
      · rw [if_neg (by simp [c]), if_pos c, jb_idx (hA.ok _ (lau_mem hi)), Option.bind_some, Rlacking (by rw [hs']; exact (hA.chk.job _ (jb_mem (hA.ok _ (lau_mem hi)))).over) (by omega), Option.bind_some]
        have := lackF_len (jb t (lau L i)).Over s'
        rw [forApp (xs := (lackF (jb t (lau L i)).Over s').map Fact.Var) (base := out) (g := fun v => [(⟨a, 16, (i : Int), -1, v⟩ : ref58_Problem)]) 1 (fun _ _ => by simp)]
        · rfl
        · intro k v out2 hf ho2
          rw [List.length_map] at ho2
          rw [idx_nat, hf, Option.bind_some, app_ok (by simp; omega)]
          rfl
      · rw [if_pos (by simp only [c, decide_false, Bool.not_false]), if_neg c, List.append_nil]
  refine Ok.bind (Ok.of (hOv _ (by simp only [List.length_append, List.length_map]; omega)) ⟨_, rfl, ?_⟩)
  unfold probs
  simp only [List.map_append, List.append_assoc]
theorem Rrun (hA : Acc t L) (hn : L.length ≤ 20) (hT : Ticks t L T) : ref58_Run_p t L = some (0, ⟨(T.flatMap (evI t L)).map (evR t L), (runF t L T).1, ((runF t L T).2.2 ++ goalL t L (runF t L T).2.1).map toR, mkS t L⟩) := by
  unfold ref58_Run_p
  rw [RLaunches hA.len, acc_all hA]
  simp only [if_true, Option.bind_some, decide_true, Bool.not_true, Bool.false_eq_true, if_false]
  rw [RMakespan hA, Option.bind_some, RTicks hA (by omega) hT, Option.bind_some]
  have htl := ticks_len hT
  have hvn := hA.chk.vars
  have hloop : Ok (forS (fun i100 => un4 fun (s_100 : (List Int)) (z100 : (List ref58_Event)) (z101 : (List (List Int))) (z102 : (List ref58_Problem)) => (idx T (i100 : Int)).bind fun x100 =>
      (ref55_After_p t L x100 s_100).bind <| fun (y103 : (List Int)) =>
      (ref58_events_p t L x100).bind <| fun (y104 : (List ref58_Event)) =>
      (app 24 z100 y104).bind fun l101 =>
      (app 24 z101 [y103]).bind fun l102 =>
      (ref58_problems_p t L x100 s_100 y103).bind <| fun (y105 : (List ref58_Problem)) =>
      (app 40 z102 y105).bind fun l103 =>
      some (y103, l101, l102, l103)) (T.length) 0 (t.Init, [], [], [])) (fun r => r = ((runF t L T).2.1, (T.flatMap (evI t L)).map (evR t L), (runF t L T).1, (runF t L T).2.2.map toR)) := by
    refine Ok.forS (fun j r => r = ((runF t L (T.take j)).2.1, ((T.take j).flatMap (evI t L)).map (evR t L), (runF t L (T.take j)).1, (runF t L (T.take j)).2.2.map toR)) rfl ?_ fun r h => by rw [h, List.take_length]
    rintro j _ hj rfl
    obtain ⟨g1, g2⟩ := runF_steps hA (T.take j)
    have gl := g1.len hA (by omega)
    rw [List.length_take] at gl
    have hz := flatMap_le (l := T.take j) (k := 40) (f := evI t L) fun a _ => by have := evI_len (t := t) (L := L) (a := a); omega
    rw [List.length_take] at hz
    have hm : min j T.length ≤ 40 := by omega
    have hm2 : min j T.length * 40 ≤ 40 * 40 := Nat.mul_le_mul_right _ hm
    have hm3 : min j T.length * 20000 ≤ 40 * 20000 := Nat.mul_le_mul_right _ hm
    have hev := evI_len (t := t) (L := L) (a := T[j])
    have hpl := probs_len (a := T[j]) hA (by omega) (s := (runF t L (T.take j)).2.1) (s' := aftX t L T[j] (runF t L (T.take j)).2.1)
    simp only [un4]
    refine Ok.step (by rw [idx_nat]; exact List.getElem?_eq_getElem hj) (Ok.step (RAfter hA (by omega) g2) (Ok.step (Revents hA (by omega)) (Ok.step (app_ok (by simp only [List.length_map]; omega)) (Ok.step (app_ok (by simp; omega)) (Ok.step (Rproblems hA (by omega) g2 ((aftX_len _).trans g2)) (Ok.step (app_ok (by simp only [List.length_map]; omega)) ⟨_, rfl, ?_⟩))))))
    rw [take_snoc hj, runF_snoc, List.flatMap_append, List.map_append]
    simp [runS]
  obtain ⟨r, h1, rfl⟩ := hloop
  rw [h1, Option.bind_some]
  simp only [un4]
  obtain ⟨g1, g2⟩ := runF_steps hA T
  have gl := g1.len hA (by omega)
  have hm3 : T.length * 20000 ≤ 40 * 20000 := Nat.mul_le_mul_right _ (by omega)
  have hg64 := len64 hA.chk.goal hA.chk.vars
  rw [Rlacking (by rw [g2]; exact hA.chk.goal) hg64, Option.bind_some]
  have hlk := lackF_len t.Goal (runF t L T).2.1
  have e : (goalL t L (runF t L T).2.1).map toR = ((lackF t.Goal (runF t L T).2.1).map Fact.Var).flatMap fun v => [(⟨mkS t L, 13, -1, -1, v⟩ : ref58_Problem)] := by
    unfold goalL
    rw [map_flat, List.flatMap_map]; rfl
  rw [List.map_append, e]
  rw [forApp (xs := (lackF t.Goal (runF t L T).2.1).map Fact.Var) (g := fun v => [(⟨mkS t L, 13, -1, -1, v⟩ : ref58_Problem)]) 1 (fun _ _ => by simp)]
  · rfl
  · intro k v out hf ho
    rw [List.length_map, List.length_map] at ho
    rw [idx_nat, hf, Option.bind_some, app_ok (by simp; omega)]
    rfl
theorem simulateRuns_ok {fu : Nat} (hfu : 1000 ≤ fu) (t : Temporal) (L : List Launch) : law58_SimulateRuns_p fu t L = some true := by
  unfold law58_SimulateRuns_p
  refine law_hd hfu fun ht hn => ?_
  obtain ⟨r, h1, h2⟩ := Run_ok hfu ht (L := L) (by omega)
  rw [h1, Option.bind_some]
  have hc := Check_c ht
  simp only [un2]
  rw [Check_ref ht, Option.bind_some]
  rcases h2 with ⟨hnA, z, hz, ha, _, rfl⟩ | h2
  · have hacc := acceptR (L := L) hc (by omega)
    rw [ha] at hacc
    cases hk : chkC t with
    | some c =>
      rw [hk] at hacc
      have : z = c := by simpa using hacc
      subst this
      have := chkC_nz ht hk
      simp [this, num_ok]
    | none =>
      rw [hk] at hacc
      have hall : L.all (okR t) = false ∧ z = 1 := by
        cases hb : L.all (okR t)
        · rw [hb] at hacc; simp at hacc; exact ⟨rfl, hacc⟩
        · rw [hb] at hacc; simp at hacc
      obtain ⟨hall, rfl⟩ := hall
      have hr : ref58_Run_p t L = some (1, ⟨[], [], [], 0⟩) := by
        unfold ref58_Run_p
        rw [RLaunches (by omega), hall]; rfl
      rw [hr]
      simp only [un2, Option.getD_none, decide_true, Bool.not_true, Bool.false_eq_true, if_false, Option.bind_some, num_ok, Option.getD_some, Same_refl]
      rfl
  · obtain ⟨hA, T, hT, rfl⟩ := h2.few hn
    have hk : chkC t = none := by
      have := hA.check
      rw [hc] at this
      exact Zu this
    rw [hk, Rrun hA hn hT]
    have hal : (allE t L T).length = (T.flatMap (evI t L)).length := by rw [allE_map, List.length_map]
    simp only [un2, Option.getD_none, decide_true, Bool.not_true, Bool.false_eq_true, if_false, Option.bind_some, num_ok, Same_refl, List.length_map, hal, Option.getD_none]
    have hE : ∀ {β : Type} {kr : Bool → Option β} {k : Unit → Option β}, ctl (forC (R := (Bool)) (fun i100 => fun (_ : Unit) => (idx (allE t L T) (i100 : Int)).bind fun x100 =>
        ((idx ((T.flatMap (evI t L)).map (evR t L)) (i100 : Int)).bind fun x101 =>
        if !decide (x100.At = x101.At) then (some true)
        else (if !decide (x100.Launch = x101.Launch) then (some true)
        else (some (!(x100.End == x101.End))))).bind (fun (z102 : Bool) => if z102 then (some (Ctl.ret false))
        else (some (Ctl.next ())))) ((T.flatMap (evI t L)).length) 0 ()) kr k = k () := by
      intro β kr k
      rw [ctl_list (xs := T.flatMap (evI t L)) (p := fun _ => true) (r := false)]
      · simp
      · intro j x hx
        rw [idx_nat, allE_map, List.getElem?_map, hx, Option.map_some, Option.bind_some, idx_nat, List.getElem?_map, hx, Option.map_some, Option.bind_some]
        have e1 : (evX t L x).At = (evR t L x).At := rfl
        have e2 : (evX t L x).Launch = (evR t L x).Launch := rfl
        have e3 : (evX t L x).End = (evR t L x).End := rfl
        rw [e1, e2, e3]
        simp
    rw [hE]
    obtain ⟨P, hP⟩ : ∃ P, (runF t L T).2.2 ++ goalL t L (runF t L T).2.1 = P := ⟨_, rfl⟩
    rw [hP]
    rw [ctl_list (xs := P) (p := fun _ => true) (r := false)]
    · simp
    · intro j x hx
      rw [idx_nat, hx, Option.bind_some, idx_nat, List.getElem?_map, hx, Option.map_some, Option.bind_some]
      simp [toR]
end
end Go.Pw
