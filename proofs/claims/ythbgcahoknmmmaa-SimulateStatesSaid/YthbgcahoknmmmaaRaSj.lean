/-
  P58.3: the states at the events' times (plain).
-/
import Derived.Test.YthbgcahoknmmmaaRaSi
set_option linter.unusedVariables false
set_option linter.unusedSimpArgs false
namespace Go.Pw
def stF (t : Temporal) (L : List Launch) (n : Nat) : List Int := (List.range n).foldl (fun s (τ : Nat) => aftX t L (τ : Int) s) t.Init
theorem stF_succ (t : Temporal) (L : List Launch) (n : Nat) : stF t L (n + 1) = aftX t L (n : Int) (stF t L n) := by
  unfold stF; rw [List.range_succ, List.foldl_append]; rfl
section
variable {t : Temporal} {L : List Launch} {T : List Int}
theorem stF_len (hA : Acc t L) : ∀ n, (stF t L n).length = t.Vars.length
  | 0 => hA.chk.ini
  | n + 1 => by rw [stF_succ, aftX_len, stF_len hA n]
theorem aftX_idle (hA : Acc t L) (hT : Ticks t L T) {a : Int} (h : a ∉ T) (s : List Int) : aftX t L a s = s := by
  unfold aftX
  have : cn t L a = [] := by
    refine List.eq_nil_iff_forall_not_mem.2 fun x hx => h ?_
    have := (mem_cn hA).1 hx
    exact (hT.mem a).2 ⟨x, this.1, this.2⟩
  rw [this]; rfl
/-- Tick by tick, and only at the times of events: the same. -/
theorem stF_run (hA : Acc t L) (hT : Ticks t L T) (h0 : ∀ a ∈ T, 0 ≤ a) : ∀ (n k : Nat), k ≤ T.length → (∀ j (hj : j < T.length), j < k → T[j] < n) → (∀ j (hj : j < T.length), k ≤ j → (n : Int) ≤ T[j]) → stF t L n = (runF t L (T.take k)).2.1
  | 0, k, hk, h1, h2 => by
    cases k with
    | zero => rfl
    | succ k =>
      have := h1 0 (by omega) (by omega)
      have := h0 _ (List.getElem_mem (show 0 < T.length by omega))
      omega
  | n + 1, k, hk, h1, h2 => by
    rw [stF_succ]
    have hp := List.pairwise_iff_getElem.1 hT.asc
    by_cases hm : (n : Int) ∈ T
    · obtain ⟨j, hj, e⟩ := List.mem_iff_getElem.1 hm
      have hjk : j < k := by
        rcases Nat.lt_or_ge j k with h | h
        · exact h
        · have := h2 j hj h; omega
      have hkj : k = j + 1 := by
        rcases Nat.lt_or_ge (j + 1) k with h | h
        · have := hp j (j + 1) hj (by omega) (by omega)
          have := h1 (j + 1) (by omega) h
          omega
        · omega
      subst hkj
      rw [stF_run hA hT h0 n j (by omega) (fun i hi hij => by have := hp i j hi hj hij; omega) (fun i hi hij => by
        by_cases c : j = i
        · subst c; omega
        · have := hp j i hj hi (by omega); omega)]
      rw [take_snoc hj, runF_snoc, e]; rfl
    · rw [aftX_idle hA hT hm, stF_run hA hT h0 n k hk (fun i hi hik => ?_) (fun i hi hki => by have := h2 i hi hki; omega)]
      have := h1 i hi hik
      have : T[i] ≠ (n : Int) := fun e => hm (by rw [← e]; exact List.getElem_mem hi)
      omega
theorem States_ok (hA : Acc t L) (hm : mkS t L ≤ 1000) : temporal_States_p t L = some ((List.range (mkS t L + 1).toNat).map (fun n => stF t L (n + 1)), none) := by
  have hm0 := (mkS_ge (t := t) (L := L)).1
  obtain ⟨n, hn⟩ : ∃ n : Nat, mkS t L = (n : Int) := ⟨(mkS t L).toNat, by omega⟩
  unfold temporal_States_p
  obtain ⟨M, hM, hMM⟩ := happenings_ok hA
  rw [acc_accept hA, Option.bind_some, makespan_ok hA]
  simp only [Option.isSome_none, Bool.false_eq_true, if_false, Option.bind_some]
  rw [if_neg (by simp; omega), hM, Option.bind_some]
  simp only [un2]
  rw [wrap_id (by omega) (by omega), hn]
  refine Ok.eq (Ok.must (by simp; omega) (Ok.bind ?_))
  have e : ((n : Int) + 1).toNat = n + 1 := by omega
  rw [e]
  refine Ok.forS (fun j r => r = (stF t L j, (List.range j).map fun n => stF t L (n + 1))) rfl ?_ fun r h => ⟨_, rfl, by rw [h]⟩
  rintro j _ hj rfl
  refine Ok.step (hMM.hget (by constructor <;> omega)) (Ok.step (after_eq hA (stF_len hA j) _) (Ok.step (app_ok (by simp; omega)) ⟨_, rfl, ?_⟩))
  rw [stF_succ, List.range_succ, List.map_append]
  simp [stF_succ]
theorem before_ok {a : Int} {x y : Nat × Bool} (hx : tmH t L x = a) (hy : tmH t L y = a) (h : Od x y) : law58_before_t (evX t L x) (evX t L y) = true := by
  unfold law58_before_t evX
  simp only [hx, hy]
  rcases h with h | h
  · simp [h.1, h.2]
  · simp [h.1]; omega
theorem simulateStates_ok {fu : Nat} (hfu : 1000 ≤ fu) (t : Temporal) (L : List Launch) : law58_SimulateStates_p fu t L = some true := by
  unfold law58_SimulateStates_p
  refine law_hd hfu fun ht hn => ?_
  obtain ⟨r, h1, h2⟩ := Run_ok hfu ht (L := L) (by omega)
  rw [h1]
  rcases h2 with ⟨_, z, _, _, hv, rfl⟩ | h2
  · simp
  obtain ⟨hA, T, hT, rfl⟩ := h2.few hn
  simp only [Option.bind_some, un2, Option.isSome_none, Bool.false_or]
  by_cases hmk : 1000 < mkS t L
  · rw [if_pos (by simpa using hmk)]
  rw [if_neg (by simpa using hmk), States_ok hA (by omega)]
  have hal := allE_len hT
  have htl := ticks_len hT
  simp only [Option.bind_some, un2, Option.isSome_none, Bool.false_or]
  rw [if_neg (by rw [wrap_id (by omega) (by omega), hal]; simp)]
  have h0 : ∀ a ∈ T, 0 ≤ a ∧ a ≤ mkS t L := fun a ha => by
    obtain ⟨x, hx, rfl⟩ := (hT.mem a).1 ha
    exact tm_le hA hx
  have hm0 := (mkS_ge (t := t) (L := L)).1
  have hSl : (runF t L T).1.length = T.length := ((runF_steps hA T).1.len hA (by omega)).2.1
  have hSg : ∀ g (hg : g < T.length), (runF t L T).1[g]? = some (runF t L (T.take (g + 1))).2.1 := by
    have key : ∀ n, n ≤ T.length → ∀ g, g < n → (runF t L (T.take n)).1[g]? = some (runF t L (T.take (g + 1))).2.1 := by
      intro n
      induction n with
      | zero => intro _ g h; omega
      | succ n ih =>
        intro hn g hg
        have hl : (runF t L (T.take n)).1.length = n := by
          rw [((runF_steps hA (T.take n)).1.len hA (by omega)).2.1, List.length_take]; omega
        have e : (runF t L (T.take (n + 1))).1 = (runF t L (T.take n)).1 ++ [(runF t L (T.take (n + 1))).2.1] := by rw [take_snoc (by omega : n < T.length), runF_snoc]; rfl
        rw [e]
        by_cases c : g < n
        · rw [List.getElem?_append_left (by omega), ih (by omega) g c]
        · have : g = n := by omega
          subst this
          rw [List.getElem?_append_right (by omega), hl]; simp
    intro g hg
    have := key T.length (Nat.le_refl _) g hg
    rwa [List.take_length] at this
  have hst : ∀ g (hg : g < T.length), ((List.range (mkS t L + 1).toNat).map (fun n => stF t L (n + 1)))[T[g].toNat]? = some (runF t L (T.take (g + 1))).2.1 := fun g hg => by
    have hb := h0 _ (List.getElem_mem hg)
    rw [List.getElem?_map, List.getElem?_range (by omega)]
    simp only [Option.map_some, Option.some.injEq]
    have hp := List.pairwise_iff_getElem.1 hT.asc
    refine stF_run hA hT (fun a ha => (h0 a ha).1) _ _ (by omega) (fun j hj hjg => ?_) (fun j hj hgj => ?_)
    · by_cases c : j = g
      · subst c; omega
      · have := hp j g hj hg (by omega); omega
    · have := hp g j hg hj (by omega); omega
  obtain ⟨off, hoff⟩ : ∃ off : Nat → Nat, ∀ g, off g = ((T.take g).flatMap (evT t L)).length := ⟨_, fun _ => rfl⟩
  have off0 : off 0 = 0 := by rw [hoff]; simp
  have offs : ∀ g (hg : g < T.length), off (g + 1) = off g + (evT t L T[g]).length := fun g hg => by rw [hoff, hoff, take_snoc hg, List.flatMap_append, List.length_append]; simp
  have offT : off T.length = (allE t L T).length := by rw [hoff, List.take_length]; rfl
  have offm : ∀ d g, g + d ≤ T.length → off g ≤ off (g + d) := by
    intro d
    induction d with
    | zero => intro g _; exact Nat.le_refl _
    | succ d ih => intro g h; have := ih g (by omega); have := offs (g + d) (by omega); rw [← Nat.add_assoc]; omega
  have hev : ∀ g (hg : g < T.length) r (hr : r < (evT t L T[g]).length), (allE t L T)[off g + r]? = (evT t L T[g])[r]? := fun g hg r hr => by
    have hall : allE t L T = (T.take g).flatMap (evT t L) ++ evT t L T[g] ++ (T.drop (g + 1)).flatMap (evT t L) := by
      unfold allE
      conv => lhs; rw [← List.take_append_drop (g + 1) T, take_snoc hg]
      rw [List.flatMap_append, List.flatMap_append]
      simp
    rw [hall, hoff, List.getElem?_append_left (by simp; omega), List.getElem?_append_right (by omega)]
    congr 1; omega
  have evg : ∀ g (hg : g < T.length) r (hr : r < (evT t L T[g]).length), ∃ hx : r < (evI t L T[g]).length, (evT t L T[g])[r]? = some (evX t L (evI t L T[g])[r]) := fun g hg r hr => by
    have : r < (evI t L T[g]).length := by unfold evT at hr; rwa [List.length_map] at hr
    refine ⟨this, ?_⟩
    unfold evT; rw [List.getElem?_map, List.getElem?_eq_getElem this]; rfl
  refine Ok.eq (Ok.ctl (fun j k => ∃ g r : Nat, j = off g + r ∧ ((g < T.length ∧ ∀ hg : g < T.length, r < (evT t L T[g]).length) ∨ g = T.length ∧ r = 0) ∧ k = if r = 0 then (g : Int) - 1 else (g : Int)) (fun _ => False) ⟨0, 0, by omega, ?_, by simp⟩ ?_ (fun r hr => hr.elim) ?_)
  · by_cases c : 0 < T.length
    · refine .inl ⟨c, fun hg => ?_⟩
      have := evI_ne hT (List.getElem_mem c)
      unfold evT; rw [List.length_map]; exact List.length_pos_iff.2 this
    · exact .inr ⟨by omega, rfl⟩
  · rintro j k hj ⟨g, r, rfl, hgr, hk⟩
    rcases hgr with ⟨hg, hr⟩ | ⟨rfl, rfl⟩
    rotate_left
    · omega
    have hr := hr hg
    obtain ⟨hri, hx⟩ := evg g hg r hr
    obtain ⟨x, ex⟩ : ∃ x, (evI t L T[g])[r] = x := ⟨_, rfl⟩
    have hmx := mem_evI.1 (List.getElem_mem hri)
    rw [ex] at hx hmx
    have hb := h0 _ (List.getElem_mem hg)
    have hlo := hA.ok _ (lau_mem hmx.1)
    have h00 := hlo.j0; have h01 := hlo.j1
    have hat : (evX t L x).At = T[g] := hmx.2
    have hla : (evX t L x).Launch = (x.1 : Int) := rfl
    have hen : (evX t L x).End = x.2 := rfl
    -- the check of the state
    have chk : Ok (if decide (((runF t L T).1.length : Int) ≤ (g : Int)) then (some true)
        else (if decide ((((List.range (mkS t L + 1).toNat).map (fun n => stF t L (n + 1))).length : Int) ≤ T[g]) then (some true)
        else ((idx (runF t L T).1 (g : Int)).bind fun x104 => (idx ((List.range (mkS t L + 1).toNat).map (fun n => stF t L (n + 1))) T[g]).bind fun x105 => (base_Ints_p x104 x105).bind <| fun (y107 : Bool) => some (!y107)))) (fun b => b = false) := by
      rw [if_neg (by simp; omega), if_neg (by simp; omega), idx_nat, hSg g hg, Option.bind_some]
      have : T[g] = (T[g].toNat : Int) := by omega
      rw [this, idx_nat, hst g hg, Option.bind_some, Ints_refl]
      exact ⟨_, rfl, rfl⟩
    have nxt : ∃ g' r' : Nat, off g + r + 1 = off g' + r' ∧ ((g' < T.length ∧ ∀ hg : g' < T.length, r' < (evT t L T[g']).length) ∨ g' = T.length ∧ r' = 0) ∧ (g : Int) = if r' = 0 then (g' : Int) - 1 else (g' : Int) := by
      by_cases c : r + 1 < (evT t L T[g]).length
      · exact ⟨g, r + 1, by omega, .inl ⟨hg, fun _ => c⟩, by simp⟩
      · have := offs g hg
        refine ⟨g + 1, 0, by omega, ?_, by simp⟩
        by_cases c2 : g + 1 < T.length
        · refine .inl ⟨c2, fun hg => ?_⟩
          have := evI_ne hT (List.getElem_mem c2)
          unfold evT; rw [List.length_map]; exact List.length_pos_iff.2 this
        · exact .inr ⟨by omega, rfl⟩
    refine Ok.step (a := evX t L x) (by rw [idx_nat, hev g hg r hr, hx]) ?_
    rw [if_neg (by rw [hla]; simp; omega)]
    refine Ok.step (a := lau L x.1) (by rw [hla, idx_nat]; exact lau_get hmx.1) ?_
    rw [if_neg (by rw [hat]; simp; omega)]
    refine Ok.bind (Ok.of (a := T[g]) ?_ ?_)
    · rw [hen]
      have := hmx.2
      unfold tmH at this
      cases hx2 : x.2
      · rw [hx2] at this; simpa using this
      · rw [hx2] at this
        have h3 := end_ok hA.chk hlo
        unfold temporal_end_p at h3
        simp only [if_true] at this ⊢
        rw [h3, this]
    rw [if_neg (by rw [hat]; simp)]
    by_cases hr0 : r = 0
    · subst hr0
      simp only [Nat.add_zero, if_true] at hk ⊢
      refine Ok.bind (Ok.of (a := true) ?_ ?_)
      · by_cases c : g = 0
        · subst c
          rw [off0]; rfl
        · have hg1 : g - 1 < T.length := by omega
          have e1 := offs (g - 1) hg1
          rw [show g - 1 + 1 = g by omega] at e1
          have hpos : 0 < (evT t L T[g - 1]).length := by
            have := evI_ne hT (List.getElem_mem hg1)
            unfold evT; rw [List.length_map]; exact List.length_pos_iff.2 this
          obtain ⟨hri', hx'⟩ := evg (g - 1) hg1 ((evT t L T[g - 1]).length - 1) (by omega)
          have hm' := mem_evI.1 (List.getElem_mem hri')
          have e2 : IntKind.i64.wrap (((off g : Nat) : Int) - 1) = ((off (g - 1) + ((evT t L T[g - 1]).length - 1) : Nat) : Int) := by rw [wrap_id (by omega) (by omega)]; omega
          rw [if_neg (by simp; omega), e2, idx_nat, hev (g - 1) hg1 _ (by omega), hx', Option.bind_some, hat]
          have : (evX t L (evI t L T[g - 1])[(evT t L T[g - 1]).length - 1]).At = T[g - 1] := hm'.2
          rw [this]
          have := List.pairwise_iff_getElem.1 hT.asc (g - 1) g hg1 hg (by omega)
          simpa using this
      · rw [if_pos rfl, hat]
        have ek : IntKind.i64.wrap (k + 1) = (g : Int) := by subst hk; rw [wrap_id (n := (g : Int) - 1 + 1) (by omega) (by omega)]; omega
        rw [ek]
        obtain ⟨b, hb1, hb2⟩ := chk
        subst hb2
        rw [hb1]
        exact ⟨_, rfl, nxt⟩
    · rw [if_neg hr0] at hk
      subst hk
      obtain ⟨hri', hx'⟩ := evg g hg (r - 1) (by omega)
      have hm' := mem_evI.1 (List.getElem_mem hri')
      have e2 : IntKind.i64.wrap (((off g + r : Nat) : Int) - 1) = ((off g + (r - 1) : Nat) : Int) := by rw [wrap_id (by omega) (by omega)]; omega
      have e3 : (evX t L (evI t L T[g])[r - 1]).At = T[g] := hm'.2
      have hod := List.pairwise_iff_getElem.1 (evI_od (t := t) (L := L) (a := T[g])) (r - 1) r hri' hri (by omega)
      rw [ex] at hod
      refine Ok.bind (Ok.of (a := false) ?_ ?_)
      · rw [if_neg (by simp; omega), e2, idx_nat, hev g hg _ (by omega), hx', Option.bind_some, hat, e3]
        simp
      · rw [if_neg (by simp), e2, idx_nat, hev g hg _ (by omega), hx', Option.bind_some, before_ok hm'.2 hmx.2 hod, hat]
        simp only [Bool.not_true, Bool.false_eq_true, if_false]
        obtain ⟨b, hb1, hb2⟩ := chk
        subst hb2
        rw [hb1]
        exact ⟨_, rfl, nxt⟩
  · rintro k ⟨g, r, e, hgr, hk⟩
    rcases hgr with ⟨hg, hr⟩ | ⟨rfl, rfl⟩
    · have hr := hr hg
      have := offs g hg
      have := offm (T.length - (g + 1)) (g + 1) (by omega)
      rw [show g + 1 + (T.length - (g + 1)) = T.length by omega] at this
      omega
    · simp only [if_true] at hk
      refine ⟨_, rfl, ?_⟩
      rw [hk, hSl]
      rw [wrap_id (by omega) (by omega)]
      simp
end
end Go.Pw
