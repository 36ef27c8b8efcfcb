/-
  Temporal plans: what the code's small functions say.
-/
import Derived.Test.YthbgcahoknmmmaaGreatRzP
import Derived.Test.YthbgcahoknmmmaaGreatG1t
set_option linter.unusedVariables false
set_option linter.unusedSimpArgs false
namespace Go.Pw
instance : Inhabited Fact := ⟨⟨0, 0⟩⟩
instance : Inhabited Job := ⟨⟨⟨#[]⟩, 0, [], [], [], [], []⟩⟩
instance : Inhabited Launch := ⟨⟨0, 0⟩⟩
/-! ### lists of facts -/
def meetB (a b : List Fact) : Bool := a.any fun x => b.any fun y => decide (x.Var = y.Var)
theorem meet_cc (b : List Fact) (x : Fact) : slices_ContainsFunc_apiFact_meet_c1_c1_p b x = some (b.any fun y => decide (x.Var = y.Var)) := by
  unfold slices_ContainsFunc_apiFact_meet_c1_c1_p slices_IndexFunc_apiFact_meet_c1_c1_p
  refine any_list (p := fun y : Fact => decide (x.Var = y.Var)) fun j y hy => ?_
  rw [idx_nat, hy]
  simp only [Option.bind_some, temporal_meet_c1_c1_t]
  split <;> rfl
theorem meet_ok (a b : List Fact) : temporal_meet_p a b = some (meetB a b) := by
  have h : slices_ContainsFunc_apiFact_meet_c1_p a b = some (meetB a b) := by
    unfold slices_ContainsFunc_apiFact_meet_c1_p slices_IndexFunc_apiFact_meet_c1_p
    refine any_list (p := fun x : Fact => b.any fun y => decide (x.Var = y.Var)) fun j x hx => ?_
    rw [idx_nat, hx]
    simp only [Option.bind_some, temporal_meet_c1_p, meet_cc]
    split <;> rfl
  unfold temporal_meet_p
  rw [h]; rfl
def holdsB (f : List Fact) (s : List Int) : Bool := f.all fun x => decide (idx s x.Var = some x.Val)
theorem idx_none {α : Type} {s : List α} {i : Int} (h : i < 0 ∨ (s.length : Int) ≤ i) : idx s i = none := by
  unfold idx
  split
  · rw [List.getElem?_eq_none]; omega
  · rfl
theorem idx_some' {α : Type} {s : List α} {i : Int} (h0 : 0 ≤ i) (h1 : i < s.length) : ∃ x, idx s i = some x ∧ s[i.toNat]? = some x := by
  unfold idx
  rw [if_pos h0]
  exact ⟨s[i.toNat]'(by omega), by simp, by simp⟩
theorem Holds_ok (f : List Fact) (s : List Int) : task_Holds_p f s = some (holdsB f s) := by
  unfold task_Holds_p holdsB
  rw [ctl_list (p := fun x : Fact => decide (idx s x.Var = some x.Val)) (r := false)]
  · cases f.all _ <;> rfl
  · intro j x hx
    rw [idx_nat, hx, Option.bind_some]
    by_cases h0 : x.Var < 0
    · have hn : idx s x.Var = none := idx_none (.inl h0)
      simp [h0, hn]
    · by_cases h1 : (s.length : Int) ≤ x.Var
      · have hn : idx s x.Var = none := idx_none (.inr h1)
        simp [h0, h1, hn]
      · obtain ⟨y, hy, _⟩ := idx_some' (s := s) (i := x.Var) (by omega) (by omega)
        simp only [h0, h1, hy, decide_false, Bool.false_eq_true, if_false, Option.bind_some, Option.some.injEq]
        by_cases e : y = x.Val <;> simp [e]
/-! ### happenings -/
def wrH (j : Job) (e : Bool) : List Fact := if e then j.AtEnd else j.AtStart
def rdH (j : Job) (e : Bool) : List Fact := if e then j.End else j.Start
def intB (a b : Job) (e f : Bool) : Bool := meetB (wrH a e) (wrH b f) || meetB (wrH a e) (rdH b f) || meetB (rdH a e) (wrH b f)
theorem writes_ok {t : Temporal} {h : temporal_happening} {j : Job} (hj : idx t.Jobs h.job = some j) : temporal_writes_p t h = some (wrH j h.end_) := by
  unfold temporal_writes_p wrH
  cases h.end_ <;> simp [hj]
theorem reads_ok {t : Temporal} {h : temporal_happening} {j : Job} (hj : idx t.Jobs h.job = some j) : temporal_reads_p t h = some (rdH j h.end_) := by
  unfold temporal_reads_p rdH
  cases h.end_ <;> simp [hj]
theorem interfere_ok {t : Temporal} {g h : temporal_happening} {i j : Job} (hi : idx t.Jobs g.job = some i) (hj : idx t.Jobs h.job = some j) : temporal_interfere_p t g h = some (intB i j g.end_ h.end_) := by
  unfold temporal_interfere_p intB
  simp only [writes_ok hi, writes_ok hj, reads_ok hi, reads_ok hj, meet_ok, Option.bind_some]
  cases meetB (wrH i g.end_) (wrH j h.end_) <;> cases meetB (wrH i g.end_) (rdH j h.end_) <;> cases meetB (rdH i g.end_) (wrH j h.end_) <;> rfl
theorem meetB_comm (a b : List Fact) : meetB a b = meetB b a := by
  rw [Bool.eq_iff_iff]
  simp only [meetB, List.any_eq_true, decide_eq_true_eq]
  exact ⟨fun ⟨x, hx, y, hy, h⟩ => ⟨y, hy, x, hx, h.symm⟩, fun ⟨x, hx, y, hy, h⟩ => ⟨y, hy, x, hx, h.symm⟩⟩
theorem meetB_iff {a b : List Fact} : meetB a b = true ↔ ∃ x ∈ a, ∃ y ∈ b, x.Var = y.Var := by
  simp only [meetB, List.any_eq_true, decide_eq_true_eq]
theorem intB_comm (a b : Job) (e f : Bool) : intB a b e f = intB b a f e := by
  unfold intB
  rw [meetB_comm (wrH a e) (wrH b f), meetB_comm (wrH a e) (rdH b f), meetB_comm (rdH a e) (wrH b f)]
  cases meetB (wrH b f) (wrH a e) <;> cases meetB (rdH b f) (wrH a e) <;> cases meetB (wrH b f) (rdH a e) <;> rfl
/-! ### Check, accept -/
structure FactsOK (n : Nat) (l : List Fact) : Prop where
  asc : l.Pairwise fun a b => a.Var < b.Var
  rng : ∀ f ∈ l, 0 ≤ f.Var ∧ f.Var < n
structure JobOK (n : Nat) (j : Job) : Prop where
  dur : 1 ≤ j.Duration ∧ j.Duration ≤ 62
  start : FactsOK n j.Start
  over : FactsOK n j.Over
  end_ : FactsOK n j.End
  atStart : FactsOK n j.AtStart
  atEnd : FactsOK n j.AtEnd
structure Chk (t : Temporal) : Prop where
  jobs : t.Jobs.length ≤ 24
  vars : t.Vars.length ≤ 64
  ini : t.Init.length = t.Vars.length
  goal : FactsOK t.Vars.length t.Goal
  job : ∀ j ∈ t.Jobs, JobOK t.Vars.length j
structure Tight (t : Temporal) : Prop where
  jobs : t.Jobs.length ≤ 1000
  name : ∀ j ∈ t.Jobs, (j.Name.size : Int) ≤ 9223372036854775807
theorem Facts_ok (vars : List Int) (l : List Fact) : Ok (task_Facts_p vars l) fun b => b = true → FactsOK vars.length l := by
  unfold task_Facts_p
  refine Ok.ctl (fun j last => -1 ≤ last ∧ (∀ f ∈ l.take j, f.Var ≤ last ∧ 0 ≤ f.Var ∧ f.Var < vars.length) ∧ (l.take j).Pairwise fun a b => a.Var < b.Var) (fun r => r = false) ⟨by omega, by simp, by simp⟩ ?_ (fun r hr => ⟨r, rfl, fun h => by rw [hr] at h; cases h⟩) fun s hs => ⟨true, rfl, fun _ => ?_⟩
  · intro j last hj ⟨h1, h2, h3⟩
    refine Ok.step (a := l[j]) (by rw [idx_nat, List.getElem?_eq_getElem hj]) ?_
    by_cases c1 : l[j].Var ≤ last
    · simp only [c1, decide_true, if_true, Option.bind_some]; exact ⟨_, rfl, rfl⟩
    by_cases c2 : (vars.length : Int) ≤ l[j].Var
    · simp only [c1, c2, decide_true, decide_false, Bool.false_eq_true, if_true, if_false, Option.bind_some]; exact ⟨_, rfl, rfl⟩
    by_cases c3 : l[j].Val < 0
    · simp only [c1, c2, c3, decide_true, decide_false, Bool.false_eq_true, if_true, if_false, Option.bind_some]; exact ⟨_, rfl, rfl⟩
    obtain ⟨y, hy, _⟩ := idx_some' (s := vars) (i := l[j].Var) (by omega) (by omega)
    simp only [c1, c2, c3, hy, decide_true, decide_false, Bool.false_eq_true, if_true, if_false, Option.bind_some]
    refine Ok.ite (fun _ => ⟨_, rfl, rfl⟩) fun _ => ⟨_, rfl, ?_, ?_, ?_⟩
    · omega
    · intro f hf
      rw [List.take_add_one, List.getElem?_eq_getElem hj] at hf
      rcases List.mem_append.1 hf with hf | hf
      · have := h2 f hf; omega
      · have : f = l[j] := by simpa using hf
        subst this; omega
    · rw [List.take_add_one, List.getElem?_eq_getElem hj]
      refine List.pairwise_append.2 ⟨h3, by simp, fun a ha b hb => ?_⟩
      have : b = l[j] := by simpa using hb
      subst this
      have := h2 a ha; omega
  · obtain ⟨h1, h2, h3⟩ := hs
    rw [List.take_length] at h2 h3
    exact ⟨h3, fun f hf => ⟨(h2 f hf).2.1, (h2 f hf).2.2⟩⟩
theorem Proper_ok (vars s : List Int) : Ok (task_Proper_p vars s) fun b => b = true → s.length = vars.length := by
  unfold task_Proper_p
  by_cases h : (s.length : Int) = (vars.length : Int)
  · simp only [h, decide_true, Bool.not_true, Bool.false_eq_true, if_false]
    refine Ok.ctl (fun _ _ => True) (fun r => r = false) trivial ?_ (fun r hr => ⟨r, rfl, fun h => by rw [hr] at h; cases h⟩) fun s _ => ⟨true, rfl, fun _ => by omega⟩
    intro j _ hj _
    refine Ok.step (a := s[j]) (by rw [idx_nat, List.getElem?_eq_getElem hj]) ?_
    by_cases c1 : s[j] < 0
    · simp only [c1, decide_true, if_true, Option.bind_some]; exact ⟨_, rfl, rfl⟩
    simp only [c1, decide_false, Bool.false_eq_true, if_false]
    rw [idx_nat, List.getElem?_eq_getElem (by omega)]
    simp only [Option.bind_some]
    exact Ok.ite (fun _ => ⟨_, rfl, rfl⟩) fun _ => ⟨_, rfl, trivial⟩
  · simp only [h, decide_false, Bool.not_false, if_true]
    exact ⟨false, rfl, fun h => by cases h⟩
def listsOf (t : Temporal) : List (List Fact) := t.Goal :: t.Jobs.flatMap fun j => [j.Start, j.Over, j.End, j.AtStart, j.AtEnd]
theorem flat5 : ∀ js : List Job, (js.flatMap fun j => [j.Start, j.Over, j.End, j.AtStart, j.AtEnd]).length = js.length * 5
  | [] => rfl
  | j :: js => by rw [List.flatMap_cons, List.length_append, flat5 js]; simp; omega
theorem lists_ok {t : Temporal} (h : t.Jobs.length ≤ 1000) : temporal_lists_p t = some (listsOf t) := by
  unfold temporal_lists_p
  have : Ok (forS (fun i667 => fun (out737 : (List (List Fact))) => (idx t.Jobs (i667 : Int)).bind fun x844 =>
      (app 24 out737 [x844.Start, x844.Over, x844.End, x844.AtStart, x844.AtEnd]).bind fun l878 => some l878) (t.Jobs.length) 0 [t.Goal]) (fun r => r = listsOf t) := by
    refine Ok.forL (fun js out => out = t.Goal :: js.flatMap fun j => [j.Start, j.Over, j.End, j.AtStart, j.AtEnd]) rfl ?_ fun s hs => hs
    rintro j l x s hx rfl rfl
    refine Ok.step (by rw [idx_nat]; exact hx) (Ok.step (app_ok ?_) ⟨_, rfl, ?_⟩)
    · rw [List.length_cons, flat5]
      have : (t.Jobs.take j).length ≤ 1000 := by rw [List.length_take]; omega
      simp only [List.length_cons, List.length_nil]
      omega
    · rw [List.flatMap_append]; simp
  obtain ⟨r, h1, rfl⟩ := this
  rw [h1]; rfl
theorem contains1_ok (l : List (List Fact)) : Ok (slices_ContainsFunc_apiFact_Check_c1_p l) fun _ => True := by
  unfold slices_ContainsFunc_apiFact_Check_c1_p slices_IndexFunc_apiFact_Check_c1_p
  rw [any_list (p := fun x => temporal_Check_c1_t x)]
  · exact ⟨_, rfl, trivial⟩
  · intro j x hx
    rw [idx_nat, hx]
    simp only [Option.bind_some]
    split <;> rfl
theorem contains2_ok (l : List (List Fact)) (t : Temporal) : Ok (slices_ContainsFunc_apiFact_Check_c2_p l t) fun b => b = false → ∀ x ∈ l, FactsOK t.Vars.length x := by
  unfold slices_ContainsFunc_apiFact_Check_c2_p slices_IndexFunc_apiFact_Check_c2_p
  have hF : ∀ x : List Fact, temporal_Check_c2_p x t = some (!((task_Facts_p t.Vars x).getD false)) := fun x => by
    obtain ⟨b, h, _⟩ := Facts_ok t.Vars x
    unfold temporal_Check_c2_p
    rw [h]; rfl
  rw [any_list (p := fun x => !((task_Facts_p t.Vars x).getD false))]
  · refine ⟨_, rfl, fun h x hx => ?_⟩
    have h1 := List.any_eq_false.1 h x hx
    obtain ⟨b, h2, h3⟩ := Facts_ok t.Vars x
    rw [h2] at h1
    exact h3 (by simpa using h1)
  · intro j x hx
    rw [idx_nat, hx]
    simp only [Option.bind_some, hF]
    split <;> rfl
theorem named_ok {s : ByteArray} (h : (s.size : Int) ≤ 9223372036854775807) : Ok (temporal_named_p s) fun _ => True := by
  unfold temporal_named_p
  refine Ok.must (by simpa using h) ?_
  refine Ok.ctl (fun _ _ => True) (fun _ => True) trivial ?_ (fun r _ => ⟨r, rfl, trivial⟩) fun _ _ => ⟨_, rfl, trivial⟩
  intro j _ hj _
  have hb : j < (bytesOf s).length := by simp [bytesOf]; omega
  rw [idx_nat, List.getElem?_eq_getElem hb]
  simp only [Option.bind_some]
  by_cases c : (bytesOf s)[j] < 32
  · simp only [c, decide_true, if_true, Option.bind_some]; exact ⟨_, rfl, trivial⟩
  · simp only [c, decide_false, Bool.false_eq_true, if_false, Option.bind_some]
    exact Ok.ite (fun _ => ⟨_, rfl, trivial⟩) fun _ => ⟨_, rfl, trivial⟩
end Go.Pw
/-
  Temporal plans: what Check and accept say; the ticks.
-/
namespace Go.Pw
theorem take_snoc {α : Type} {l : List α} {j : Nat} (hj : j < l.length) : l.take (j + 1) = l.take j ++ [l[j]] := by
  rw [List.take_add_one, List.getElem?_eq_getElem hj]; rfl
theorem Check_ok {t : Temporal} (ht : Tight t) : Ok (temporal_Check_p t) fun e => e = none → Chk t := by
  unfold temporal_Check_p
  refine Ok.step (lists_ok ht.jobs) (Ok.bind ?_)
  have key : ∀ z, (z = false → t.Vars.length ≤ 64 ∧ t.Jobs.length ≤ 24) → Ok (if z = true then some (some 5) else ctl (forC (R := (Option Int)) (fun i100 => fun (_ : Unit) => (idx t.Vars (i100 : Int)).bind fun x100 =>
      if ((decide (x100 < 1)) || decide (64 < x100)) then (some (Ctl.ret (some 1))) else (some (Ctl.next ()))) (t.Vars.length) 0 ()) (fun r => some r) (fun (_ : Unit) => ctl (forC (R := ((Option Int))) (fun i101 => fun (_ : Unit) => (idx t.Jobs (i101 : Int)).bind fun x101 =>
      if ((decide (x101.Duration < 1)) || decide (62 < x101.Duration)) then (some (Ctl.ret (some 1))) else (some (Ctl.next ()))) (t.Jobs.length) 0 ()) (fun r => some r) (fun (_ : Unit) => ((task_Proper_p t.Vars t.Init).bind <| fun (y102 : Bool) =>
      if !y102 then (some true) else ((slices_ContainsFunc_apiFact_Check_c2_p (listsOf t) t).bind <| fun (y103 : Bool) => some y103)).bind (fun (z101 : Bool) => if z101 then (some (some 2))
      else (ctl (forC (R := ((Option Int))) (fun i102 => fun (_ : Unit) => (idx t.Jobs (i102 : Int)).bind fun x102 =>
      (temporal_named_p x102.Name).bind <| fun (y104 : Bool) => if !y104 then (some (Ctl.ret (some 8))) else (some (Ctl.next ()))) (t.Jobs.length) 0 ()) (fun r => some r) (fun (_ : Unit) => some none)))))) (fun e => e = none → Chk t) := by
    intro z hz
    refine Ok.ite (fun _ => ⟨_, rfl, fun h => by cases h⟩) fun hz0 => ?_
    obtain ⟨hv, hj⟩ := hz hz0
    refine Ok.ctl (fun _ _ => True) (fun r => r ≠ none) trivial ?_ (fun r hr => ⟨r, rfl, fun h => absurd h hr⟩) fun _ _ => ?_
    · intro j _ hj _
      refine Ok.step (by rw [idx_nat, List.getElem?_eq_getElem hj]) ?_
      exact Ok.ite (fun _ => ⟨_, rfl, fun h => by cases h⟩) fun _ => ⟨_, rfl, trivial⟩
    refine Ok.ctl (fun j _ => ∀ x ∈ t.Jobs.take j, 1 ≤ x.Duration ∧ x.Duration ≤ 62) (fun r => r ≠ none) (by simp) ?_ (fun r hr => ⟨r, rfl, fun h => absurd h hr⟩) fun _ hd => ?_
    · intro j _ hj hi
      refine Ok.step (by rw [idx_nat, List.getElem?_eq_getElem hj]) ?_
      refine Ok.ite (fun _ => ⟨_, rfl, fun h => by cases h⟩) fun hc => ⟨_, rfl, fun x hx => ?_⟩
      rw [take_snoc hj] at hx
      rcases List.mem_append.1 hx with hx | hx
      · exact hi x hx
      · have : x = t.Jobs[j] := by simpa using hx
        subst this
        simp only [Bool.or_eq_false_iff, decide_eq_false_iff_not] at hc
        omega
    rw [List.take_length] at hd
    refine Ok.bind (Ok.bind ((Proper_ok t.Vars t.Init).mono fun b hb => ?_))
    have hnam : Ok (ctl (forC (R := ((Option Int))) (fun i102 => fun (_ : Unit) => (idx t.Jobs (i102 : Int)).bind fun x102 =>
      (temporal_named_p x102.Name).bind <| fun (y104 : Bool) => if !y104 then (some (Ctl.ret (some 8))) else (some (Ctl.next ()))) (t.Jobs.length) 0 ()) (fun r => some r) (fun (_ : Unit) => some none)) (fun _ => True) := by
      refine Ok.ctl (fun _ _ => True) (fun _ => True) trivial ?_ (fun r _ => ⟨r, rfl, trivial⟩) fun _ _ => ⟨_, rfl, trivial⟩
      intro j _ hj _
      refine Ok.step (by rw [idx_nat, List.getElem?_eq_getElem hj]) ?_
      refine Ok.bind ((named_ok (ht.name _ (List.getElem_mem hj))).mono fun y _ => ?_)
      exact Ok.ite (fun _ => ⟨_, rfl, trivial⟩) fun _ => ⟨_, rfl, trivial⟩
    cases b with
    | false => exact ⟨true, rfl, _, rfl, fun h => by cases h⟩
    | true =>
      simp only [Bool.not_true, Bool.false_eq_true, if_false]
      refine Ok.bind ((contains2_ok (listsOf t) t).mono fun c hc => ?_)
      refine ⟨c, rfl, ?_⟩
      refine Ok.ite (fun _ => ⟨_, rfl, fun h => by cases h⟩) fun hc0 => hnam.mono fun e _ _ => ?_
      have hl := hc hc0
      refine ⟨hj, hv, hb rfl, hl _ (by simp [listsOf]), fun j hjm => ?_⟩
      have hm : ∀ x ∈ [j.Start, j.Over, j.End, j.AtStart, j.AtEnd], FactsOK t.Vars.length x := fun x hx => hl x (List.mem_cons_of_mem _ (List.mem_flatMap.2 ⟨j, hjm, hx⟩))
      exact ⟨hd j hjm, hm _ (by simp), hm _ (by simp), hm _ (by simp), hm _ (by simp), hm _ (by simp)⟩
  by_cases c1 : 64 < (t.Vars.length : Int)
  · simp only [c1, decide_true, if_true]
    exact ⟨true, rfl, key true (by simp)⟩
  by_cases c2 : 24 < (t.Jobs.length : Int)
  · simp only [c1, c2, decide_true, decide_false, Bool.false_eq_true, if_false, if_true]
    exact ⟨true, rfl, key true (by simp)⟩
  simp only [c1, c2, decide_false, Bool.false_eq_true, if_false]
  refine Ok.bind ((contains1_ok (listsOf t)).mono fun z _ => ⟨z, rfl, key z fun _ => by omega⟩)
/-! ### accept -/
structure LOK (t : Temporal) (l : Launch) : Prop where
  j0 : 0 ≤ l.Job
  j1 : l.Job < t.Jobs.length
  a0 : 0 ≤ l.At
  a1 : l.At ≤ 1048576
structure Acc (t : Temporal) (L : List Launch) : Prop where
  check : temporal_Check_p t = some none
  chk : Chk t
  len : L.length ≤ 4096
  ok : ∀ l ∈ L, LOK t l
theorem accept_ok {t : Temporal} (ht : Tight t) (L : List Launch) : Ok (temporal_accept_p t L) fun e => e = none → Acc t L := by
  unfold temporal_accept_p
  obtain ⟨e, he, hc⟩ := Check_ok ht
  refine Ok.step he ?_
  cases e with
  | some z => exact ⟨some z, rfl, fun h => by cases h⟩
  | none =>
    simp only [Option.isSome_none, Bool.false_eq_true, if_false]
    refine Ok.ite (fun _ => ⟨_, rfl, fun h => by cases h⟩) fun hl => ?_
    refine Ok.ctl (fun j _ => ∀ l ∈ L.take j, LOK t l) (fun r => r ≠ none) (by simp) ?_ (fun r hr => ⟨r, rfl, fun h => absurd h hr⟩) fun _ hd => ⟨none, rfl, fun _ => ⟨he, hc rfl, by have := dec_f hl; omega, by rwa [List.take_length] at hd⟩⟩
    intro j _ hj hi
    refine Ok.step (by rw [idx_nat, List.getElem?_eq_getElem hj]) ?_
    refine Ok.ite (fun _ => ⟨_, rfl, fun h => by cases h⟩) fun hc => ⟨_, rfl, fun x hx => ?_⟩
    rw [take_snoc hj] at hx
    rcases List.mem_append.1 hx with hx | hx
    · exact hi x hx
    · have : x = L[j] := by simpa using hx
      subst this
      simp only [Bool.or_eq_false_iff, decide_eq_false_iff_not] at hc
      exact ⟨by omega, by omega, by omega, by omega⟩
theorem accept_none {t : Temporal} {L : List Launch} (hc : temporal_Check_p t = some none) (hl : L.length ≤ 4096) (ho : ∀ l ∈ L, LOK t l) : temporal_accept_p t L = some none := by
  unfold temporal_accept_p
  rw [hc]
  simp only [Option.bind_some, Option.isSome_none, Bool.false_eq_true, if_false]
  rw [if_neg (by simp; omega)]
  rw [ctl_list (p := fun _ => true) (r := some 1)]
  · simp
  · intro j x hx
    rw [idx_nat, hx, Option.bind_some]
    have := ho x (List.mem_of_getElem? hx)
    obtain ⟨a, b, c, d⟩ := this
    rw [if_neg]
    · rfl
    · simp; omega
/-! ### jobs and times -/
def jb (t : Temporal) (l : Launch) : Job := t.Jobs[l.Job.toNat]!
def endT (t : Temporal) (l : Launch) : Int := l.At + (jb t l).Duration
theorem jb_idx {t : Temporal} {l : Launch} (h : LOK t l) : idx t.Jobs l.Job = some (jb t l) := by
  obtain ⟨x, h1, h2⟩ := idx_some' (s := t.Jobs) h.j0 h.j1
  rw [h1, jb, List.getElem!_eq_getElem?_getD, h2]; rfl
theorem jb_mem {t : Temporal} {l : Launch} (h : LOK t l) : jb t l ∈ t.Jobs := by
  have := jb_idx h
  unfold idx at this
  split at this
  · exact List.mem_of_getElem? this
  · cases this
theorem end_ok {t : Temporal} {l : Launch} (hc : Chk t) (h : LOK t l) : temporal_end_p t l = some (endT t l) := by
  unfold temporal_end_p
  rw [jb_idx h, Option.bind_some, wrap_id]
  · rfl
  · have := (hc.job _ (jb_mem h)).dur; have := h.a0; omega
  · have := (hc.job _ (jb_mem h)).dur; have := h.a1; omega
theorem endT_gt {t : Temporal} {l : Launch} (hc : Chk t) (h : LOK t l) : l.At < endT t l ∧ endT t l ≤ l.At + 62 := by
  have := (hc.job _ (jb_mem h)).dur
  unfold endT; omega
/-! ### the happenings of a tick -/
def hapsAt (t : Temporal) (L : List Launch) (q : Int) : List temporal_happening := L.flatMap fun l => (if l.At = q then [⟨l.Job, false⟩] else []) ++ (if endT t l = q then [⟨l.Job, true⟩] else [])
theorem hapsAt_snoc (t : Temporal) (L : List Launch) (l : Launch) (q : Int) : hapsAt t (L ++ [l]) q = hapsAt t L q ++ ((if l.At = q then [⟨l.Job, false⟩] else []) ++ (if endT t l = q then [⟨l.Job, true⟩] else [])) := by
  unfold hapsAt; rw [List.flatMap_append]; simp
theorem hapsAt_len (t : Temporal) (q : Int) : ∀ L : List Launch, (hapsAt t L q).length ≤ 2 * L.length
  | [] => by simp [hapsAt]
  | l :: L => by
    have ih := hapsAt_len t q L
    unfold hapsAt at ih ⊢
    rw [List.flatMap_cons, List.length_append, List.length_cons, List.length_append]
    have h1 : (if l.At = q then [(⟨l.Job, false⟩ : temporal_happening)] else []).length ≤ 1 := by split <;> simp
    have h2 : (if endT t l = q then [(⟨l.Job, true⟩ : temporal_happening)] else []).length ≤ 1 := by split <;> simp
    omega
/-- The map of happenings. -/
structure HMap (t : Temporal) (L : List Launch) (M : List (Int × List temporal_happening)) : Prop where
  nd : (M.map Prod.fst).Nodup
  get : ∀ q, (aget M q).getD [] = hapsAt t L q
  key : ∀ q, q ∈ M.map Prod.fst ↔ ∃ l ∈ L, l.At = q ∨ endT t l = q
  len : M.length ≤ 2 * L.length
theorem HMap.hget {t : Temporal} {L : List Launch} {M : List (Int × List temporal_happening)} (h : HMap t L M) {q : Int} (hq : i64ok q) : hmapGet M q = some (hapsAt t L q) := by
  unfold hmapGet; rw [if_pos hq, h.get]
theorem put_step {M : List (Int × List temporal_happening)} {q : Int} {x : temporal_happening} {R : Int → List temporal_happening} {Ks : Int → Prop} {n : Nat} (hq : i64ok q) (hn : n ≤ 100000) (hR : (R q).length ≤ 100000)
    (h1 : (M.map Prod.fst).Nodup) (h2 : ∀ p, (aget M p).getD [] = R p) (h3 : ∀ p, p ∈ M.map Prod.fst ↔ Ks p) (h4 : M.length ≤ n) {β : Type} {P : β → Prop} {f : List (Int × List temporal_happening) → Option β}
    (k : ∀ M', (M'.map Prod.fst).Nodup → (∀ p, (aget M' p).getD [] = R p ++ (if q = p then [x] else [])) → (∀ p, p ∈ M'.map Prod.fst ↔ Ks p ∨ q = p) → M'.length ≤ n + 1 → Ok (f M') P) :
    Ok ((hmapGet M q).bind fun r => (app 16 r [x]).bind fun l => (hmapPut M q l).bind f) P := by
  have hg : hmapGet M q = some (R q) := by unfold hmapGet; rw [if_pos hq, h2]
  refine Ok.step hg (Ok.step (app_ok (by simp; omega)) (Ok.step (a := aput M q (R q ++ [x])) ?_ (k _ (aput_nodup h1 _ _) (fun p => ?_) (fun p => ?_) ?_)))
  · unfold hmapPut; rw [if_pos ⟨hq, by simp [maxLen]; omega⟩]
  · rw [aget_put]
    by_cases e : q = p
    · subst e; simp
    · rw [if_neg e, if_neg e, h2]; simp
  · rw [← aget_key, aget_put]
    by_cases e : q = p
    · subst e; simp
    · rw [if_neg e, aget_key, h3]; simp [e]
  · rw [aput_length]; split <;> omega
theorem happenings_ok {t : Temporal} {L : List Launch} (hA : Acc t L) : ∃ M, temporal_happenings_p t L = some (M, srtI (M.map Prod.fst)) ∧ HMap t L M := by
  have hI : ∀ l ∈ L, i64ok l.At ∧ i64ok (endT t l) := fun l hl => by
    have h1 := hA.ok l hl
    have h2 := endT_gt hA.chk h1
    have := h1.a0; have := h1.a1
    constructor <;> constructor <;> omega
  have hloop : Ok (forS (fun i100 => fun (l100 : (List (Int × (List temporal_happening)))) => (idx L (i100 : Int)).bind fun x100 =>
      (hmapGet l100 x100.At).bind fun r100 => (app 16 r100 [(⟨x100.Job, false⟩ : temporal_happening)]).bind fun l101 => (hmapPut l100 x100.At l101).bind fun m100 =>
      (temporal_end_p t x100).bind <| fun (y100 : Int) => (hmapGet m100 y100).bind fun r101 => (app 16 r101 [(⟨x100.Job, true⟩ : temporal_happening)]).bind fun l102 =>
      (hmapPut m100 y100 l102).bind fun m101 => some m101) (L.length) 0 ([] : (List (Int × (List temporal_happening))))) (HMap t L) := by
    refine Ok.forL (HMap t) ⟨by simp, fun q => rfl, fun q => by simp, by simp⟩ ?_ fun s hs => hs
    intro j l x M hx hl hM
    have hxm := List.mem_of_getElem? hx
    have hll : l.length ≤ 4096 := by rw [hl, List.length_take]; have := hA.len; omega
    refine Ok.step (by rw [idx_nat]; exact hx) ?_
    refine put_step (hI x hxm).1 (n := 2 * l.length) (by omega) ?_ hM.nd hM.get hM.key hM.len ?_
    · have := hapsAt_len t x.At l; omega
    intro M1 a1 a2 a3 a4
    refine Ok.step (end_ok hA.chk (hA.ok x hxm)) ?_
    refine put_step (hI x hxm).2 (n := 2 * l.length + 1) (by omega) ?_ a1 a2 a3 a4 ?_
    · have := hapsAt_len t (endT t x) l
      rw [List.length_append]
      split <;> simp <;> omega
    intro M2 b1 b2 b3 b4
    refine ⟨M2, rfl, b1, fun q => ?_, fun q => ?_, by simp; omega⟩
    · rw [b2, hapsAt_snoc, List.append_assoc]
    · rw [b3]
      simp only [List.mem_append, List.mem_singleton]
      constructor
      · rintro ((⟨l', h1, h2⟩ | h) | h)
        · exact ⟨l', .inl h1, h2⟩
        · exact ⟨x, .inr rfl, .inl h⟩
        · exact ⟨x, .inr rfl, .inr h⟩
      · rintro ⟨l', h1 | rfl, h2⟩
        · exact .inl (.inl ⟨l', h1, h2⟩)
        · rcases h2 with h2 | h2
          · exact .inl (.inr h2)
          · exact .inr h2
  obtain ⟨M, h1, hM⟩ := hloop
  refine ⟨M, ?_, hM⟩
  unfold temporal_happenings_p
  rw [h1, Option.bind_some]
  refine rangeK_eq fun ord ho => ?_
  have hlen : ord.length ≤ 8192 := by
    have := ho.length_eq
    rw [List.length_map] at this
    have := hM.len; have := hA.len; omega
  rw [foldK_app ord [] (by simp; omega)]
  simp only [List.nil_append, Option.bind_some, sortInts_p]
  rw [if_pos (by omega)]
  simp only [Option.bind_some]
  rw [show (ord.mergeSort fun x y => decide (x ≤ y)) = srtI (M.map Prod.fst) from srtI_congr ho]
end Go.Pw
/-
  Temporal plans: a tick.
-/
namespace Go.Pw
/-! ### happenings by launch -/
def lau (L : List Launch) (i : Nat) : Launch := L[i]!
theorem lau_get {L : List Launch} {i : Nat} (h : i < L.length) : L[i]? = some (lau L i) := by simp [lau, h]
theorem lau_mem {L : List Launch} {i : Nat} (h : i < L.length) : lau L i ∈ L := List.mem_of_getElem? (lau_get h)
def tmH (t : Temporal) (L : List Launch) (x : Nat × Bool) : Int := if x.2 then endT t (lau L x.1) else (lau L x.1).At
def jH (t : Temporal) (L : List Launch) (x : Nat × Bool) : Job := jb t (lau L x.1)
def wrX (t : Temporal) (L : List Launch) (x : Nat × Bool) : List Fact := wrH (jH t L x) x.2
def rdX (t : Temporal) (L : List Launch) (x : Nat × Bool) : List Fact := rdH (jH t L x) x.2
def intX (t : Temporal) (L : List Launch) (x y : Nat × Bool) : Bool := intB (jH t L x) (jH t L y) x.2 y.2
def hpOf (L : List Launch) (x : Nat × Bool) : temporal_happening := ⟨(lau L x.1).Job, x.2⟩
def allH (n : Nat) : List (Nat × Bool) := (List.range n).flatMap fun i => [(i, false), (i, true)]
theorem allH_succ (n : Nat) : allH (n + 1) = allH n ++ [(n, false), (n, true)] := by
  unfold allH; rw [List.range_succ, List.flatMap_append]; simp
theorem mem_allH {n : Nat} {x : Nat × Bool} : x ∈ allH n ↔ x.1 < n := by
  unfold allH
  rw [List.mem_flatMap]
  obtain ⟨i, b⟩ := x
  constructor
  · rintro ⟨j, hj, hx⟩
    simp only [List.mem_range] at hj
    simp at hx
    rcases hx with ⟨rfl, _⟩ | ⟨rfl, _⟩ <;> exact hj
  · intro h
    exact ⟨i, List.mem_range.2 h, by cases b <;> simp⟩
theorem allH_nodup : ∀ n : Nat, (allH n).Nodup
  | 0 => by simp [allH]
  | n + 1 => by
    rw [allH_succ]
    refine List.nodup_append.2 ⟨allH_nodup n, by simp, fun x hx y hy => ?_⟩
    rw [mem_allH] at hx
    rintro rfl
    simp at hy
    rcases hy with rfl | rfl <;> simp at hx
def ixA (t : Temporal) (L : List Launch) (a : Int) : List (Nat × Bool) := (allH L.length).filter fun x => decide (tmH t L x = a)
theorem mem_ixA {t : Temporal} {L : List Launch} {a : Int} {x : Nat × Bool} : x ∈ ixA t L a ↔ x.1 < L.length ∧ tmH t L x = a := by
  unfold ixA; rw [List.mem_filter, mem_allH]; simp
theorem ixA_nodup (t : Temporal) (L : List Launch) (a : Int) : (ixA t L a).Nodup := (allH_nodup _).filter _
theorem hapsAt_ix (t : Temporal) (L : List Launch) (a : Int) : hapsAt t L a = (ixA t L a).map (hpOf L) := by
  have h : ∀ n, n ≤ L.length → hapsAt t (L.take n) a = ((allH n).filter fun x => decide (tmH t L x = a)).map (hpOf L) := by
    intro n
    induction n with
    | zero => intro _; simp [hapsAt, allH]
    | succ n ih =>
      intro hn
      rw [take_snoc (by omega), hapsAt_snoc, ih (by omega), allH_succ, List.filter_append, List.map_append]
      congr 1
      have e : L[n] = lau L n := by simp [lau, show n < L.length by omega]
      rw [e]
      by_cases c1 : (lau L n).At = a <;> by_cases c2 : endT t (lau L n) = a <;> simp [tmH, hpOf, c1, c2]
  have := h L.length (Nat.le_refl _)
  rw [List.take_length] at this
  exact this
/-! ### what a tick asks -/
def NoOv (t : Temporal) (L : List Launch) (a : Int) : Prop := ∀ i k, i < L.length → k < L.length → i ≠ k → (lau L i).At = a → (lau L i).Job = (lau L k).Job → ¬ ((lau L k).At ≤ a ∧ a ≤ endT t (lau L k))
def NoInt (t : Temporal) (L : List Launch) (a : Int) : Prop := ∀ x y : Nat × Bool, x.1 < L.length → y.1 < L.length → tmH t L x = a → tmH t L y = a → x ≠ y → intX t L x y = false
def PreOK (t : Temporal) (L : List Launch) (a : Int) (s : List Int) : Prop := ∀ x : Nat × Bool, x.1 < L.length → tmH t L x = a → holdsB (rdX t L x) s = true
def OverOK (t : Temporal) (L : List Launch) (a : Int) (s : List Int) : Prop := ∀ i, i < L.length → (lau L i).At ≤ a → a < endT t (lau L i) → holdsB (jb t (lau L i)).Over s = true
def AftOK (t : Temporal) (L : List Launch) (a : Int) (s s' : List Int) : Prop := s'.length = s.length ∧ ∀ v : Nat, v < s.length →
  (∃ x : Nat × Bool, x.1 < L.length ∧ tmH t L x = a ∧ ∃ f ∈ wrX t L x, f.Var = (v : Int) ∧ s'[v]? = some f.Val) ∨ ((∀ x : Nat × Bool, x.1 < L.length → tmH t L x = a → ∀ f ∈ wrX t L x, f.Var ≠ (v : Int)) ∧ s'[v]? = s[v]?)
theorem overlaps_ok {t : Temporal} {L : List Launch} (hA : Acc t L) (a : Int) : Ok (temporal_overlaps_p t L a) fun b => b = false ↔ NoOv t L a := by
  unfold temporal_overlaps_p
  refine Ok.ctl (fun j _ => ∀ i k, i < j → i < L.length → k < L.length → i ≠ k → (lau L i).At = a → (lau L i).Job = (lau L k).Job → ¬ ((lau L k).At ≤ a ∧ a ≤ endT t (lau L k))) (fun r => r = true ∧ ¬ NoOv t L a) (fun i k h => by omega) ?_ (fun r hr => ⟨r, rfl, by rw [hr.1]; exact ⟨fun h => absurd h (by simp), fun h => absurd h hr.2⟩⟩) fun _ hi => ⟨false, rfl, ⟨fun _ i k h1 => hi i k h1 h1, fun _ => rfl⟩⟩
  intro j _ hj hi
  refine Ok.step (by rw [idx_nat]; exact lau_get hj) ?_
  have next : (lau L j).At ≠ a → ∀ i k, i < j + 1 → i < L.length → k < L.length → i ≠ k → (lau L i).At = a → (lau L i).Job = (lau L k).Job → ¬ ((lau L k).At ≤ a ∧ a ≤ endT t (lau L k)) := fun hne i k h1 h2 => by
    by_cases e : i = j
    · subst e; exact fun _ _ h => absurd h hne
    · exact hi i k (by omega) h2
  refine Ok.ite (fun h => ⟨_, rfl, next (by simpa using h)⟩) fun h => ?_
  have hat : (lau L j).At = a := by simpa using h
  refine Ok.ctl (fun m _ => ∀ k, k < m → j ≠ k → (lau L j).Job = (lau L k).Job → ¬ ((lau L k).At ≤ a ∧ a ≤ endT t (lau L k))) (fun r => r = true ∧ ¬ NoOv t L a) (fun k h => by omega) ?_ (fun r hr => ⟨_, rfl, hr⟩) fun _ hk => ⟨_, rfl, fun i k h1 h2 h3 => ?_⟩
  · intro m _ hm hk
    refine Ok.step (by rw [idx_nat]; exact lau_get hm) ?_
    have nx : (j ≠ m → (lau L j).Job = (lau L m).Job → ¬ ((lau L m).At ≤ a ∧ a ≤ endT t (lau L m))) → ∀ k, k < m + 1 → j ≠ k → (lau L j).Job = (lau L k).Job → ¬ ((lau L k).At ≤ a ∧ a ≤ endT t (lau L k)) := fun h k h1 => by
      by_cases e : k = m
      · subst e; exact h
      · exact hk k (by omega)
    by_cases c1 : ((j : Int) = (m : Int))
    · simp only [c1, decide_true, Bool.not_true, Bool.false_eq_true, if_false, Option.bind_some]
      exact ⟨_, rfl, nx fun h => absurd (by omega) h⟩
    by_cases c2 : (lau L j).Job = (lau L m).Job
    · have e2 : decide ((lau L j).Job = (lau L m).Job) = true := by simp [c2]
      by_cases c3 : (lau L m).At ≤ a
      · simp only [c1, e2, c3, decide_true, decide_false, Bool.not_false, if_true, end_ok hA.chk (hA.ok _ (lau_mem hm)), Option.bind_some]
        refine Ok.ite (fun h => ⟨_, rfl, rfl, fun hno => hno j m hj hm (by omega) hat c2 ⟨c3, dec_t h⟩⟩) fun h => ⟨_, rfl, nx fun _ _ hh => (dec_f h) hh.2⟩
      · simp only [c1, e2, c3, decide_true, decide_false, Bool.not_false, if_true, Bool.false_eq_true, if_false, Option.bind_some]
        exact ⟨_, rfl, nx fun _ _ hh => c3 hh.1⟩
    · simp only [c1, c2, decide_true, decide_false, Bool.not_false, if_true, Bool.false_eq_true, if_false, Option.bind_some]
      exact ⟨_, rfl, nx fun _ h => absurd h c2⟩
  · by_cases e : i = j
    · subst e; exact fun h4 _ => hk k h3 h4
    · exact hi i k (by omega) h2 h3
/-! ### the state after -/
def wrJ (t : Temporal) (h : temporal_happening) : List Fact := wrH (t.Jobs[h.job.toNat]!) h.end_
def AInv (t : Temporal) (list : List temporal_happening) (s : List Int) (D : Nat → Prop) (s' : List Int) : Prop := s'.length = s.length ∧ ∀ v : Nat, v < s.length →
  (∃ p h f, list[p]? = some h ∧ D p ∧ f ∈ wrJ t h ∧ f.Var = (v : Int) ∧ s'[v]? = some f.Val) ∨ ((∀ p h, list[p]? = some h → D p → ∀ f ∈ wrJ t h, f.Var ≠ (v : Int)) ∧ s'[v]? = s[v]?)
theorem AInv.congr {t : Temporal} {list : List temporal_happening} {s s' : List Int} {D D' : Nat → Prop} (h : AInv t list s D s') (e : ∀ p, p < list.length → (D p ↔ D' p)) : AInv t list s D' s' := by
  have hlt : ∀ {p h}, list[p]? = some h → p < list.length := fun hp => (List.getElem?_eq_some_iff.1 hp).1
  refine ⟨h.1, fun v hv => ?_⟩
  rcases h.2 v hv with ⟨p, x, f, h1, h2, h3⟩ | ⟨h1, h2⟩
  · exact .inl ⟨p, x, f, h1, (e p (hlt h1)).1 h2, h3⟩
  · exact .inr ⟨fun p x h3 h4 => h1 p x h3 ((e p (hlt h3)).2 h4), h2⟩
theorem AInv.facts {t : Temporal} {list : List temporal_happening} {s s0 s' : List Int} {D : Nat → Prop} (h : AInv t list s D s0) {q : Nat} {x : temporal_happening} (hx : list[q]? = some x)
    (h' : s'.length = s0.length ∧ ∀ v : Nat, v < s0.length → (∃ f ∈ wrJ t x, f.Var = (v : Int) ∧ s'[v]? = some f.Val) ∨ ((∀ f ∈ wrJ t x, f.Var ≠ (v : Int)) ∧ s'[v]? = s0[v]?)) : AInv t list s (fun p => D p ∨ p = q) s' := by
  refine ⟨h'.1.trans h.1, fun v hv => ?_⟩
  rcases h'.2 v (by rw [h.1]; exact hv) with ⟨f, g1, g2, g3⟩ | ⟨g1, g2⟩
  · exact .inl ⟨q, x, f, hx, .inr rfl, g1, g2, g3⟩
  · rcases h.2 v hv with ⟨p, y, f, k1, k2, k3, k4, k5⟩ | ⟨k1, k2⟩
    · exact .inl ⟨p, y, f, k1, .inl k2, k3, k4, g2.trans k5⟩
    · refine .inr ⟨fun p y h1 h2 => ?_, g2.trans k2⟩
      rcases h2 with h2 | rfl
      · exact k1 p y h1 h2
      · rw [hx] at h1; cases h1; exact g1
end Go.Pw
/-
  Temporal plans: what a tick says; the value of a variable at a time.
-/
namespace Go.Pw
theorem jH_idx {t : Temporal} {L : List Launch} (hA : Acc t L) {x : Nat × Bool} (hx : x.1 < L.length) : idx t.Jobs (hpOf L x).job = some (jH t L x) := jb_idx (hA.ok _ (lau_mem hx))
theorem jH_ok {t : Temporal} {L : List Launch} (hA : Acc t L) {x : Nat × Bool} (hx : x.1 < L.length) : JobOK t.Vars.length (jH t L x) := hA.chk.job _ (jb_mem (hA.ok _ (lau_mem hx)))
theorem wrX_ok {t : Temporal} {L : List Launch} (hA : Acc t L) {x : Nat × Bool} (hx : x.1 < L.length) : FactsOK t.Vars.length (wrX t L x) := by
  unfold wrX wrH; split
  · exact (jH_ok hA hx).atEnd
  · exact (jH_ok hA hx).atStart
theorem rdX_ok {t : Temporal} {L : List Launch} (hA : Acc t L) {x : Nat × Bool} (hx : x.1 < L.length) : FactsOK t.Vars.length (rdX t L x) := by
  unfold rdX rdH; split
  · exact (jH_ok hA hx).end_
  · exact (jH_ok hA hx).start
theorem intX_comm (t : Temporal) (L : List Launch) (x y : Nat × Bool) : intX t L x y = intX t L y x := intB_comm _ _ _ _
theorem ix_get {t : Temporal} {L : List Launch} {a : Int} {p : Nat} {x : Nat × Bool} (h : (ixA t L a)[p]? = some x) : (hapsAt t L a)[p]? = some (hpOf L x) := by
  rw [hapsAt_ix, List.getElem?_map, h]; rfl
theorem haps_get {t : Temporal} {L : List Launch} {a : Int} {p : Nat} {h : temporal_happening} (hp : (hapsAt t L a)[p]? = some h) : ∃ x, (ixA t L a)[p]? = some x ∧ h = hpOf L x ∧ x.1 < L.length ∧ tmH t L x = a := by
  rw [hapsAt_ix, List.getElem?_map, Option.map_eq_some_iff] at hp
  obtain ⟨x, h1, h2⟩ := hp
  exact ⟨x, h1, h2.symm, mem_ixA.1 (List.mem_of_getElem? h1)⟩
theorem AftOK.of {t : Temporal} {L : List Launch} {a : Int} {s s' : List Int} (h : AInv t (hapsAt t L a) s (fun _ => True) s') : AftOK t L a s s' := by
  refine ⟨h.1, fun v hv => ?_⟩
  rcases h.2 v hv with ⟨p, y, f, h1, _, h3, h4, h5⟩ | ⟨h1, h2⟩
  · obtain ⟨x, g1, rfl, g2, g3⟩ := haps_get h1
    exact .inl ⟨x, g2, g3, f, h3, h4, h5⟩
  · refine .inr ⟨fun x hx ha f hf => ?_, h2⟩
    obtain ⟨p, hp, e⟩ := List.mem_iff_getElem.1 (mem_ixA.2 ⟨hx, ha⟩)
    have hg : (ixA t L a)[p]? = some x := by rw [List.getElem?_eq_getElem hp, e]
    exact h1 p _ (ix_get hg) trivial f hf
/-! ### the value of a variable behind a tick -/
def Wv (t : Temporal) (L : List Launch) (x : Nat × Bool) (v : Nat) (c : Int) : Prop := ∃ f ∈ wrX t L x, f.Var = (v : Int) ∧ f.Val = c
def IsVal (t : Temporal) (L : List Launch) (v : Nat) (τ : Int) (c : Int) : Prop :=
  (∃ x : Nat × Bool, x.1 < L.length ∧ tmH t L x ≤ τ ∧ Wv t L x v c ∧ ∀ y : Nat × Bool, y.1 < L.length → tmH t L y ≤ τ → (∃ d, Wv t L y v d) → tmH t L y ≤ tmH t L x) ∨
  ((∀ y : Nat × Bool, y.1 < L.length → (∃ d, Wv t L y v d) → τ < tmH t L y) ∧ t.Init[v]? = some c)
def SOK (t : Temporal) (L : List Launch) (τ : Int) (s : List Int) : Prop := s.length = t.Vars.length ∧ ∀ v, v < t.Vars.length → ∃ c, s[v]? = some c ∧ IsVal t L v τ c
theorem IsVal.idle {t : Temporal} {L : List Launch} {v : Nat} {τ τ' c : Int} (h : IsVal t L v τ c) (hle : τ ≤ τ') (hno : ∀ y : Nat × Bool, y.1 < L.length → (∃ d, Wv t L y v d) → tmH t L y ≤ τ' → tmH t L y ≤ τ) : IsVal t L v τ' c := by
  rcases h with ⟨x, h1, h2, h3, h4⟩ | ⟨h1, h2⟩
  · exact .inl ⟨x, h1, by omega, h3, fun y g1 g2 g3 => h4 y g1 (hno y g1 g3 g2) g3⟩
  · refine .inr ⟨fun y g1 g2 => ?_, h2⟩
    have := h1 y g1 g2
    by_cases e : tmH t L y ≤ τ'
    · have := hno y g1 g2 e; omega
    · omega
theorem SOK.step {t : Temporal} {L : List Launch} {a : Int} {s s' : List Int} (h : SOK t L (a - 1) s) (h' : AftOK t L a s s') : SOK t L a s' := by
  refine ⟨h'.1.trans h.1, fun v hv => ?_⟩
  obtain ⟨c, h1, h2⟩ := h.2 v hv
  rcases h'.2 v (by rw [h.1]; exact hv) with ⟨x, g1, g2, f, g3, g4, g5⟩ | ⟨g1, g2⟩
  · exact ⟨f.Val, g5, .inl ⟨x, g1, by omega, ⟨f, g3, g4, rfl⟩, fun y _ k _ => by omega⟩⟩
  · refine ⟨c, g2.trans h1, h2.idle (by omega) fun y k1 k2 k3 => ?_⟩
    obtain ⟨d, f, f1, f2, f3⟩ := k2
    have : tmH t L y ≠ a := fun e => g1 y k1 e f f1 f2
    omega
theorem SOK.idle {t : Temporal} {L : List Launch} {τ τ' : Int} {s : List Int} (h : SOK t L τ s) (hle : τ ≤ τ') (hno : ∀ y : Nat × Bool, y.1 < L.length → tmH t L y ≤ τ' → tmH t L y ≤ τ) : SOK t L τ' s :=
  ⟨h.1, fun v hv => let ⟨c, h1, h2⟩ := h.2 v hv; ⟨c, h1, h2.idle hle fun y g1 _ g3 => hno y g1 g3⟩⟩
theorem asc_uniq {n : Nat} {l : List Fact} (h : FactsOK n l) {f g : Fact} (hf : f ∈ l) (hg : g ∈ l) (e : f.Var = g.Var) : f = g := by
  obtain ⟨i, hi, rfl⟩ := List.mem_iff_getElem.1 hf
  obtain ⟨j, hj, rfl⟩ := List.mem_iff_getElem.1 hg
  have hp := List.pairwise_iff_getElem.1 h.asc
  rcases Nat.lt_trichotomy i j with k | k | k
  · have := hp i j hi hj k; omega
  · subst k; rfl
  · have := hp j i hj hi k; omega
theorem Wv.uniq {t : Temporal} {L : List Launch} (hA : Acc t L) {x : Nat × Bool} (hx : x.1 < L.length) {v : Nat} {c d : Int} (h : Wv t L x v c) (h' : Wv t L x v d) : c = d := by
  obtain ⟨f, f1, f2, rfl⟩ := h
  obtain ⟨g, g1, g2, rfl⟩ := h'
  rw [asc_uniq (wrX_ok hA hx) f1 g1 (f2.trans g2.symm)]
theorem ww_int {t : Temporal} {L : List Launch} {x y : Nat × Bool} {v : Nat} {c d : Int} (h : Wv t L x v c) (h' : Wv t L y v d) : intX t L x y = true := by
  obtain ⟨f, f1, f2, rfl⟩ := h
  obtain ⟨g, g1, g2, rfl⟩ := h'
  unfold intX intB
  rw [show meetB (wrH (jH t L x) x.2) (wrH (jH t L y) y.2) = true from meetB_iff.2 ⟨f, f1, g, g1, f2.trans g2.symm⟩]
  rfl
theorem IsVal.uniq {t : Temporal} {L : List Launch} (hA : Acc t L) {v : Nat} {τ c d : Int} (hN : ∀ a, a ≤ τ → NoInt t L a) (h : IsVal t L v τ c) (h' : IsVal t L v τ d) : c = d := by
  rcases h with ⟨x, h1, h2, h3, h4⟩ | ⟨h1, h2⟩
  · rcases h' with ⟨y, g1, g2, g3, g4⟩ | ⟨g1, g2⟩
    · have e1 := h4 y g1 g2 ⟨_, g3⟩
      have e2 := g4 x h1 h2 ⟨_, h3⟩
      by_cases e : x = y
      · subst e; exact h3.uniq hA h1 g3
      · have := hN _ h2 x y h1 g1 rfl (by omega) e
        rw [ww_int h3 g3] at this; cases this
    · have := g1 x h1 ⟨_, h3⟩; omega
  · rcases h' with ⟨y, g1, g2, g3, g4⟩ | ⟨g1, g2⟩
    · have := h1 y g1 ⟨_, g3⟩; omega
    · rw [h2] at g2; cases g2; rfl
end Go.Pw
/-
  Temporal plans: Validate accepts exactly the plans that are fine.
-/
namespace Go.Pw
def mkS (t : Temporal) (L : List Launch) : Int := L.foldl (fun m l => max m (endT t l)) 0
theorem foldmax_le (t : Temporal) : ∀ (L : List Launch) (m : Int), m ≤ L.foldl (fun m l => max m (endT t l)) m ∧ ∀ l ∈ L, endT t l ≤ L.foldl (fun m l => max m (endT t l)) m
  | [], m => ⟨Int.le_refl _, by simp⟩
  | x :: L, m => by
    obtain ⟨h1, h2⟩ := foldmax_le t L (max m (endT t x))
    simp only [List.foldl_cons]
    refine ⟨by omega, fun l hl => ?_⟩
    rcases List.mem_cons.1 hl with rfl | hl
    · omega
    · exact h2 l hl
theorem mkS_ge {t : Temporal} {L : List Launch} : 0 ≤ mkS t L ∧ ∀ l ∈ L, endT t l ≤ mkS t L := foldmax_le t L 0
theorem makespan_ok {t : Temporal} {L : List Launch} (hA : Acc t L) : temporal_makespan_p t L = some (mkS t L) := by
  unfold temporal_makespan_p
  have h : Ok (forS (fun i100 => fun (out100 : Int) => (idx L (i100 : Int)).bind fun x100 => (temporal_end_p t x100).bind <| fun (y100 : Int) => some (max out100 y100)) (L.length) 0 0) (fun r => r = mkS t L) := by
    refine Ok.forL (fun l m => m = l.foldl (fun m l => max m (endT t l)) 0) rfl ?_ fun s hs => hs
    rintro j l x m hx _ rfl
    refine Ok.step (by rw [idx_nat]; exact hx) (Ok.step (end_ok hA.chk (hA.ok x (List.mem_of_getElem? hx))) ⟨_, rfl, ?_⟩)
    rw [List.foldl_append]; rfl
  obtain ⟨r, h1, rfl⟩ := h
  rw [h1]; rfl
structure Fine (t : Temporal) (L : List Launch) : Prop where
  ov : ∀ a, NoOv t L a
  ni : ∀ a, NoInt t L a
  pre : ∀ x : Nat × Bool, x.1 < L.length → ∀ f ∈ rdX t L x, IsVal t L f.Var.toNat (tmH t L x - 1) f.Val
  over : ∀ i, i < L.length → ∀ τ, (lau L i).At ≤ τ → τ < endT t (lau L i) → ∀ f ∈ (jb t (lau L i)).Over, IsVal t L f.Var.toNat τ f.Val
  goal : ∀ f ∈ t.Goal, IsVal t L f.Var.toNat (mkS t L) f.Val
theorem tm_le {t : Temporal} {L : List Launch} (hA : Acc t L) {x : Nat × Bool} (hx : x.1 < L.length) : 0 ≤ tmH t L x ∧ tmH t L x ≤ mkS t L := by
  have h1 := hA.ok _ (lau_mem hx)
  have h2 := endT_gt hA.chk h1
  have h3 := (mkS_ge (t := t) (L := L)).2 _ (lau_mem hx)
  have := h1.a0
  unfold tmH
  split <;> omega
/-- The ticks. -/
structure Ticks (t : Temporal) (L : List Launch) (T : List Int) : Prop where
  asc : T.Pairwise (· < ·)
  mem : ∀ a, a ∈ T ↔ ∃ x : Nat × Bool, x.1 < L.length ∧ tmH t L x = a
theorem ticks_of {t : Temporal} {L : List Launch} {M : List (Int × List temporal_happening)} (h : HMap t L M) : Ticks t L (srtI (M.map Prod.fst)) := by
  have hp := srtI_perm (M.map Prod.fst)
  refine ⟨?_, fun a => ?_⟩
  · have h1 := srtI_le (M.map Prod.fst)
    have h2 := hp.nodup_iff.2 h.nd
    refine (h1.and h2).imp fun ⟨a, b⟩ => ?_
    omega
  · rw [hp.mem_iff, h.key]
    constructor
    · rintro ⟨l, hl, e⟩
      obtain ⟨i, hi, rfl⟩ := List.mem_iff_getElem.1 hl
      have el : lau L i = L[i] := by simp [lau, hi]
      rcases e with e | e
      · exact ⟨(i, false), hi, by simp [tmH, el, e]⟩
      · exact ⟨(i, true), hi, by simp [tmH, el, e]⟩
    · rintro ⟨⟨i, b⟩, hi, e⟩
      refine ⟨lau L i, lau_mem hi, ?_⟩
      cases b with
      | true => exact .inr e
      | false => exact .inl e
/-- What the ticks so far have shown. -/
structure Seen (t : Temporal) (L : List Launch) (a : Int) : Prop where
  ov : NoOv t L a
  ni : NoInt t L a
  pre : ∀ x : Nat × Bool, x.1 < L.length → tmH t L x = a → ∀ f ∈ rdX t L x, IsVal t L f.Var.toNat (a - 1) f.Val
  over : ∀ i, i < L.length → (lau L i).At ≤ a → a < endT t (lau L i) → ∀ f ∈ (jb t (lau L i)).Over, IsVal t L f.Var.toNat a f.Val
theorem Fine.seen {t : Temporal} {L : List Launch} (h : Fine t L) (a : Int) : Seen t L a :=
  ⟨h.ov a, h.ni a, fun x hx e f hf => by subst e; exact h.pre x hx f hf, fun i hi h1 h2 f hf => h.over i hi a h1 h2 f hf⟩
theorem Fine.of {t : Temporal} {L : List Launch} {T : List Int} (hT : Ticks t L T) (h : ∀ a ∈ T, Seen t L a) (hg : ∀ f ∈ t.Goal, IsVal t L f.Var.toNat (mkS t L) f.Val) : Fine t L := by
  refine ⟨fun a i k hi hk hne he hj => ?_, fun a x y hx hy tx ty => ?_, fun x hx f hf => ?_, fun i hi τ h1 h2 f hf => ?_, hg⟩
  · exact (h a ((hT.mem a).2 ⟨(i, false), hi, he⟩)).ov i k hi hk hne he hj
  · exact (h a ((hT.mem a).2 ⟨x, hx, tx⟩)).ni x y hx hy tx ty
  · exact (h _ ((hT.mem _).2 ⟨x, hx, rfl⟩)).pre x hx rfl f hf
  · -- the last tick at or before the time
    have hne : (lau L i).At ∈ T.filter fun a => decide (a ≤ τ) := List.mem_filter.2 ⟨(hT.mem _).2 ⟨(i, false), hi, rfl⟩, by simpa using h1⟩
    obtain ⟨a, ha, hmax⟩ : ∃ a, a ∈ T ∧ a ≤ τ ∧ ∀ b ∈ T, b ≤ τ → b ≤ a := by
      generalize hF : T.filter (fun a => decide (a ≤ τ)) = F at hne
      have hasc : F.Pairwise (· < ·) := by rw [← hF]; exact hT.asc.filter _
      have hFn : F ≠ [] := List.ne_nil_of_mem hne
      refine ⟨F.getLast hFn, ?_, ?_, fun b hb hbτ => ?_⟩
      · have : F.getLast hFn ∈ F := List.getLast_mem hFn
        have hm : F.getLast hFn ∈ T.filter fun a => decide (a ≤ τ) := by rw [hF]; exact this
        exact (List.mem_filter.1 hm).1
      · have : F.getLast hFn ∈ F := List.getLast_mem hFn
        have hm : F.getLast hFn ∈ T.filter fun a => decide (a ≤ τ) := by rw [hF]; exact this
        simpa using (List.mem_filter.1 hm).2
      · have hb' : b ∈ F := by rw [← hF]; exact List.mem_filter.2 ⟨hb, by simpa using hbτ⟩
        obtain ⟨p, hp, rfl⟩ := List.mem_iff_getElem.1 hb'
        rw [List.getLast_eq_getElem]
        by_cases e : p = F.length - 1
        · subst e; exact Int.le_refl _
        · have := List.pairwise_iff_getElem.1 hasc p (F.length - 1) hp (by omega) (by omega)
          omega
    have hge := hmax.2 _ ((hT.mem _).2 ⟨(i, false), hi, rfl⟩) h1
    refine ((h a ha).over i hi hge (by omega) f hf).idle hmax.1 fun y hy _ hyτ => ?_
    exact hmax.2 _ ((hT.mem _).2 ⟨y, hy, rfl⟩) hyτ
end Go.Pw
/-
  Simulation: the state behind a tick, exactly.
-/
namespace Go.Pw
/-! ### what is written, in order -/
def setF (fs : List Fact) (s : List Int) : List Int := fs.foldl (fun s f => s.set f.Var.toNat f.Val) s
theorem setF_len (fs : List Fact) : ∀ s : List Int, (setF fs s).length = s.length := by
  unfold setF
  induction fs with
  | nil => intro s; rfl
  | cons f fs ih => intro s; simp only [List.foldl_cons]; rw [ih]; simp
def wrAll (t : Temporal) (L : List Launch) (xs : List (Nat × Bool)) (s : List Int) : List Int := xs.foldl (fun s x => setF (wrX t L x) s) s
theorem wrAll_len (t : Temporal) (L : List Launch) (xs : List (Nat × Bool)) : ∀ s : List Int, (wrAll t L xs s).length = s.length := by
  unfold wrAll
  induction xs with
  | nil => intro s; rfl
  | cons x xs ih => intro s; simp only [List.foldl_cons]; rw [ih, setF_len]
theorem wrAll_append (t : Temporal) (L : List Launch) (xs ys : List (Nat × Bool)) (s : List Int) : wrAll t L (xs ++ ys) s = wrAll t L ys (wrAll t L xs s) := by unfold wrAll; rw [List.foldl_append]
def cnJ (t : Temporal) (L : List Launch) (a : Int) (e : Bool) (j : Nat) : List (Nat × Bool) := ((List.range L.length).filter fun i => decide ((lau L i).Job = (j : Int) ∧ tmH t L (i, e) = a)).map fun i => (i, e)
def cnE (t : Temporal) (L : List Launch) (a : Int) (e : Bool) : List (Nat × Bool) := (List.range t.Jobs.length).flatMap fun j => cnJ t L a e j
/-- The happenings of a tick: ends by job, then starts by job. -/
def cn (t : Temporal) (L : List Launch) (a : Int) : List (Nat × Bool) := cnE t L a true ++ cnE t L a false
def aftX (t : Temporal) (L : List Launch) (a : Int) (s : List Int) : List Int := wrAll t L (cn t L a) s
theorem facts_eq {s : List Int} {fs : List Fact} (hf : ∀ f ∈ fs, 0 ≤ f.Var ∧ f.Var < s.length) :
    forS (fun i103 => fun (l103 : (List Int)) => (idx fs (i103 : Int)).bind fun x102 => (idx l103 x102.Var).bind fun x103 => (setI l103 x102.Var x102.Val).bind fun l104 => some l104) (fs.length) 0 s = some (setF fs s) := by
  refine Ok.eq (Ok.forL (fun l s' => s' = setF l s) rfl ?_ fun s' h => h)
  rintro j l x s' hx hl rfl
  obtain ⟨b1, b2⟩ := hf x (List.mem_of_getElem? hx)
  obtain ⟨n, hn⟩ : ∃ n : Nat, x.Var = (n : Int) := ⟨x.Var.toNat, by omega⟩
  have hlen : n < (setF l s).length := by rw [setF_len]; omega
  refine Ok.step (by rw [idx_nat]; exact hx) (Ok.step (a := (setF l s)[n]'hlen) (by rw [hn, idx_nat, List.getElem?_eq_getElem hlen]) (Ok.step (a := (setF l s).set n x.Val) (by rw [hn]; exact setI_nat hlen) ⟨_, rfl, ?_⟩))
  unfold setF
  rw [List.foldl_append]
  simp only [List.foldl_cons, List.foldl_nil]
  rw [hn]; rfl
section
variable {t : Temporal} {L : List Launch}
theorem wrX_rng (hA : Acc t L) {x : Nat × Bool} (hx : x.1 < L.length) {s : List Int} (hs : s.length = t.Vars.length) : ∀ f ∈ wrX t L x, 0 ≤ f.Var ∧ f.Var < s.length := fun f hf => by
  rw [hs]
  have hk := hA.chk.job _ (jb_mem (hA.ok _ (lau_mem hx)))
  unfold wrX wrH at hf
  split at hf
  · exact hk.atEnd.rng f hf
  · exact hk.atStart.rng f hf
theorem ix_getA {a : Int} {p : Nat} {x : Nat × Bool} (h : (ixA t L a)[p]? = some x) : (hapsAt t L a)[p]? = some (hpOf L x) := by
  rw [hapsAt_ix, List.getElem?_map, h]; rfl
/-- What of a list is for a job and a kind. -/
theorem filt_ix (t : Temporal) (L : List Launch) (a : Int) (e : Bool) (j : Nat) : ((ixA t L a).filter fun x => decide ((lau L x.1).Job = (j : Int) ∧ x.2 = e)) = cnJ t L a e j := by
  unfold ixA cnJ
  rw [List.filter_filter]
  have h : ∀ n, ((allH n).filter fun x => (decide ((lau L x.1).Job = (j : Int) ∧ x.2 = e)) && decide (tmH t L x = a)) = ((List.range n).filter fun i => decide ((lau L i).Job = (j : Int) ∧ tmH t L (i, e) = a)).map fun i => (i, e) := by
    intro n
    induction n with
    | zero => rfl
    | succ n ih =>
      rw [allH_succ, List.filter_append, ih, List.range_succ, List.filter_append, List.map_append]
      congr 1
      cases e <;> by_cases c1 : (lau L n).Job = (j : Int) <;> by_cases c2 : tmH t L (n, true) = a <;> by_cases c3 : tmH t L (n, false) = a <;> simp [c1, c2, c3]
  exact h L.length
theorem after_eq (hA : Acc t L) {s : List Int} (hs : s.length = t.Vars.length) (a : Int) : temporal_after_p t s (hapsAt t L a) = some (aftX t L a s) := by
  unfold temporal_after_p slices_Clone_int_p
  rw [app_ok (by simp; have := hA.chk.vars; omega)]
  simp only [Option.bind_some, List.nil_append]
  refine Ok.eq (Ok.bind (Ok.forS (fun i s' => s' = wrAll t L ((([true, false] : List Bool).take i).flatMap fun e => cnE t L a e) s) rfl ?_ fun s' h => ⟨s', rfl, by rw [h]; simp [aftX, cn]⟩))
  rintro i s1 hi rfl
  have hi2 : i < 2 := hi
  rw [idx_nat, List.getElem?_eq_getElem hi, Option.bind_some]
  generalize hs1 : wrAll t L ((([true, false] : List Bool).take i).flatMap fun e => cnE t L a e) s = s1
  have hl1 : s1.length = t.Vars.length := by rw [← hs1, wrAll_len, hs]
  generalize hx : ([true, false] : List Bool)[i] = e
  refine Ok.bind (Ok.forS (fun j s' => s' = wrAll t L ((List.range j).flatMap fun j => cnJ t L a e j) s1) rfl ?_ fun s' h => ⟨s', rfl, ?_⟩)
  · rintro j s2 hj rfl
    generalize hs2 : wrAll t L ((List.range j).flatMap fun j => cnJ t L a e j) s1 = s2
    have hl2 : s2.length = t.Vars.length := by rw [← hs2, wrAll_len, hl1]
    have hlen : (hapsAt t L a).length = (ixA t L a).length := by rw [hapsAt_ix, List.length_map]
    rw [hlen]
    refine Ok.bind (Ok.forS (fun q s' => s' = wrAll t L (((ixA t L a).take q).filter fun x => decide ((lau L x.1).Job = (j : Int) ∧ x.2 = e)) s2) rfl ?_ fun s' h => ⟨s', rfl, ?_⟩)
    · rintro q s3 hq rfl
      generalize hs3 : wrAll t L (((ixA t L a).take q).filter fun x => decide ((lau L x.1).Job = (j : Int) ∧ x.2 = e)) s2 = s3
      have hl3 : s3.length = t.Vars.length := by rw [← hs3, wrAll_len, hl2]
      have hg := List.getElem?_eq_getElem hq
      have hm := mem_ixA.1 (List.getElem_mem hq)
      have h1 : idx (hapsAt t L a) (q : Int) = some (hpOf L (ixA t L a)[q]) := by rw [idx_nat]; exact ix_getA hg
      refine Ok.step h1 ?_
      rw [take_snoc hq, List.filter_append, wrAll_append, hs3]
      by_cases c : (lau L (ixA t L a)[q].1).Job = (j : Int) ∧ (ixA t L a)[q].2 = e
      · have hc1 : (hpOf L (ixA t L a)[q]).job = (j : Int) := c.1
        have hc2 : (hpOf L (ixA t L a)[q]).end_ = e := c.2
        rw [if_neg (by rw [hc1, hc2]; simp), writes_ok (j := jH t L (ixA t L a)[q]) (jb_idx (hA.ok _ (lau_mem hm.1)))]
        have he : (wrH (jH t L (ixA t L a)[q]) (hpOf L (ixA t L a)[q]).end_) = wrX t L (ixA t L a)[q] := rfl
        rw [he, Option.bind_some, facts_eq (wrX_rng hA hm.1 hl3)]
        refine ⟨_, rfl, ?_⟩
        rw [List.filter_cons_of_pos (by simpa using c)]
        rfl
      · rw [if_pos (by
          have hh : ¬ ((hpOf L (ixA t L a)[q]).job = (j : Int) ∧ (hpOf L (ixA t L a)[q]).end_ = e) := c
          by_cases k1 : (hpOf L (ixA t L a)[q]).job = (j : Int)
          · by_cases k2 : (hpOf L (ixA t L a)[q]).end_ = e
            · exact absurd ⟨k1, k2⟩ hh
            · simp [k1, k2]
          · simp [k1])]
        refine ⟨_, rfl, ?_⟩
        rw [List.filter_cons_of_neg (by simpa using c)]
        rfl
    · rw [h, List.take_length, filt_ix, List.range_succ, List.flatMap_append, wrAll_append, hs2]
      simp
  · rw [h, take_snoc hi, List.flatMap_append, wrAll_append, hs1, hx]
    simp [cnE]
end
end Go.Pw
