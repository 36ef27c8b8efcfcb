/-
  Simulation: what Run returns.
-/
import Derived.Test.YthbgcahoknmmmaaGreatRzSC
import Derived.KernelRfl
set_option linter.unusedVariables false
set_option linter.unusedSimpArgs false
namespace Go.Pw
theorem flatMap_ge {α β : Type} {f : α → List β} : ∀ {l : List α}, (∀ x ∈ l, f x ≠ []) → l.length ≤ (l.flatMap f).length
  | [], _ => by simp
  | x :: l, h => by
    have h1 := List.length_pos_iff.2 (h x (by simp))
    have h2 := flatMap_ge (l := l) fun y hy => h y (List.mem_cons_of_mem _ hy)
    rw [List.flatMap_cons, List.length_append, List.length_cons]
    omega
section
variable {t : Temporal} {L : List Launch} {a : Int} {s s' : List Int} {T : List Int}
theorem Ticks.uniq {T' : List Int} (h : Ticks t L T) (h' : Ticks t L T') : T = T' := by
  refine List.Perm.eq_of_pairwise (le := fun a b : Int => a < b) (fun a b _ _ h1 h2 => by omega) h.asc h'.asc ?_
  refine (List.perm_ext_iff_of_nodup (h.asc.imp fun h => by omega) (h'.asc.imp fun h => by omega)).2 fun a => by rw [h.mem, h'.mem]
theorem evI_ne (hT : Ticks t L T) (h : a ∈ T) : evI t L a ≠ [] := by
  obtain ⟨x, hx, tx⟩ := (hT.mem a).1 h
  exact List.ne_nil_of_mem (mem_evI.2 ⟨hx, tx⟩)
theorem allH_len : ∀ n : Nat, (allH n).length = 2 * n
  | 0 => by simp [allH]
  | n + 1 => by rw [allH_succ, List.length_append, allH_len n]; simp; omega
theorem evs_perm (hT : Ticks t L T) : (T.flatMap (evI t L)).Perm (allH L.length) := by
  refine (List.perm_ext_iff_of_nodup ?_ (allH_nodup _)).2 fun x => ?_
  · refine List.pairwise_flatMap.2 ⟨fun a _ => evI_nodup, hT.asc.imp fun {a b} hab x hx y hy e => ?_⟩
    subst e
    have := (mem_evI.1 hx).2; have := (mem_evI.1 hy).2; omega
  · rw [List.mem_flatMap, mem_allH]
    constructor
    · rintro ⟨a, _, h⟩; exact (mem_evI.1 h).1
    · intro h; exact ⟨tmH t L x, (hT.mem _).2 ⟨x, h, rfl⟩, mem_evI.2 ⟨h, rfl⟩⟩
theorem ticks_len (hT : Ticks t L T) : T.length ≤ 2 * L.length := by
  have h1 := flatMap_ge (f := evI t L) fun a h => evI_ne hT h
  rw [(evs_perm hT).length_eq, allH_len] at h1
  exact h1
def allE (t : Temporal) (L : List Launch) (T : List Int) : List simulate_Event := T.flatMap (evT t L)
theorem allE_map : allE t L T = (T.flatMap (evI t L)).map (evX t L) := by
  unfold allE evT; rw [List.map_flatMap]
theorem allE_len (hT : Ticks t L T) : (allE t L T).length = 2 * L.length := by
  rw [allE_map, List.length_map, (evs_perm hT).length_eq, allH_len]
theorem evX_le {x y : Nat × Bool} (h : tmH t L x < tmH t L y ∨ tmH t L x = tmH t L y ∧ Od x y) : ¬ cmpV (evX t L y) (evX t L x) < 0 := by
  rw [cmpV_neg]
  unfold evX rkE Od at *
  simp only
  rcases h with h | ⟨h, h1 | h1⟩
  · omega
  · rw [h1.1, h1.2]; simp; omega
  · rw [h1.1]; omega
theorem sorted_eq (hT : Ticks t L T) : ((allH L.length).map (evX t L)).mergeSort (fun x y => !decide (cmpV y x < 0)) = allE t L T := by
  have hp : (((allH L.length).map (evX t L)).mergeSort fun x y => !decide (cmpV y x < 0)).Pairwise fun x y => (!decide (cmpV y x < 0)) = true := by
    apply List.pairwise_mergeSort
    · intro a b c h1 h2
      simp only [Bool.not_eq_true', decide_eq_false_iff_not, cmpV_neg] at *
      omega
    · intro a b
      simp only [Bool.or_eq_true, Bool.not_eq_true', decide_eq_false_iff_not, cmpV_neg]
      omega
  refine List.Perm.eq_of_pairwise (le := fun x y => (!decide (cmpV y x < 0)) = true) (fun x y _ _ h1 h2 => ?_) hp ?_ ((List.mergeSort_perm _ _).trans ?_)
  · simp only [Bool.not_eq_true', decide_eq_false_iff_not, cmpV_neg] at h1 h2
    have e1 : x.At = y.At := by omega
    have e2 : rkE x = rkE y := by omega
    have e3 : x.Launch = y.Launch := by omega
    have e4 := rkE_eq e2
    obtain ⟨a, b, c⟩ := x
    obtain ⟨a', b', c'⟩ := y
    simp only at e1 e3 e4
    rw [e1, e3, e4]
  · rw [allE_map, List.pairwise_map]
    refine List.pairwise_flatMap.2 ⟨fun a _ => ?_, hT.asc.imp fun {a b} hab x hx y hy => ?_⟩
    · refine List.Pairwise.imp_of_mem (fun {x y} hx hy h => ?_) evI_od
      have h1 := (mem_evI.1 hx).2; have h2 := (mem_evI.1 hy).2
      simpa using evX_le (t := t) (L := L) (.inr ⟨h1.trans h2.symm, h⟩)
    · have h1 := (mem_evI.1 hx).2; have h2 := (mem_evI.1 hy).2
      simpa using evX_le (t := t) (L := L) (x := x) (y := y) (.inl (by omega))
  · rw [allE_map]
    exact ((evs_perm hT).map _).symm
theorem events_ok (hA : Acc t L) (hn : L.length ≤ 40) (hT : Ticks t L T) : simulate_run_events_p ⟨t, L, ⟨[], [], [], 0⟩⟩ = some (mkS t L, allE t L T) := by
  unfold simulate_run_events_p
  have h : forS (fun i100 => un2 fun (z100 : Int) (l100 : (List simulate_Event)) => (idx L (i100 : Int)).bind fun x101 =>
      (simulate_run_end_p (⟨t, L, (⟨l100, [], [], z100⟩ : simulate_Report)⟩ : simulate_run) (i100 : Int)).bind <| fun (y100 : Int) =>
      (app 24 l100 [(⟨x101.At, (i100 : Int), false⟩ : simulate_Event), (⟨y100, (i100 : Int), true⟩ : simulate_Event)]).bind fun l101 =>
      (simulate_run_end_p (⟨t, L, (⟨l101, [], [], z100⟩ : simulate_Report)⟩ : simulate_run) (i100 : Int)).bind <| fun (y101 : Int) =>
      some (max z100 y101, l101)) (L.length) 0 ((0 : Int), ([] : List simulate_Event)) = some (mkS t L, (allH L.length).map (evX t L)) := by
    refine Ok.eq (Ok.forS (fun j r => r = ((L.take j).foldl (fun m l => max m (endT t l)) 0, (allH j).map (evX t L))) (by simp [allH]) ?_ fun r h => by rw [h, List.take_length]; rfl)
    rintro j _ hj rfl
    simp only [un2]
    refine Ok.step (by rw [idx_nat]; exact lau_get hj) (Ok.step (runend_ok hA hj) (Ok.step (app_ok ?_) (Ok.step (runend_ok hA hj) ⟨_, rfl, ?_⟩)))
    · rw [List.length_map, allH_len]; simp; omega
    · rw [take_snoc hj, List.foldl_append, allH_succ, List.map_append]
      have e : L[j] = lau L j := by simp [lau, hj]
      rw [e]
      simp [evX, tmH]
  simp only [h, Option.bind_some, un2, sortEvent_p]
  rw [if_pos (by rw [List.length_map, allH_len]; omega), Option.bind_some, sorted_eq hT]
/-! ### the steps -/
inductive Steps (t : Temporal) (L : List Launch) : List Int → List (List Int) → List Int → List simulate_Problem → Prop
  | nil : Steps t L [] [] t.Init []
  | snoc {T : List Int} {S : List (List Int)} {s : List Int} {P : List simulate_Problem} {a : Int} {s' : List Int} (h : Steps t L T S s P) (h1 : AftOK t L a s s') (h2 : (evT t L a).length ≤ 20 → s' = aftX t L a s) : Steps t L (T ++ [a]) (S ++ [s']) s' (P ++ probs t L a s s')
theorem Steps.len {S : List (List Int)} {P : List simulate_Problem} (hA : Acc t L) (hn : L.length ≤ 40) (h : Steps t L T S s P) : s.length = t.Vars.length ∧ S.length = T.length ∧ P.length ≤ T.length * 20000 ∧ ∀ x ∈ S, x.length = t.Vars.length := by
  induction h with
  | nil => exact ⟨hA.chk.ini, rfl, by simp, by simp⟩
  | snoc h h1 h2 ih =>
    obtain ⟨i1, i2, i3, i4⟩ := ih
    have hl := h1.1.trans i1
    refine ⟨hl, by simp [i2], ?_, fun x hx => ?_⟩
    · rename_i T S s P a s'
      have := probs_len hA hn (a := a) (s := s) (s' := s')
      rw [List.length_append, List.length_append, List.length_singleton]
      omega
    · rcases List.mem_append.1 hx with hx | hx
      · exact i4 x hx
      · rw [List.mem_singleton] at hx; subst hx; exact hl
noncomputable def runS (t : Temporal) (L : List Launch) (r : List (List Int) × List Int × List simulate_Problem) (a : Int) : List (List Int) × List Int × List simulate_Problem := (r.1 ++ [aftX t L a r.2.1], aftX t L a r.2.1, r.2.2 ++ probs t L a r.2.1 (aftX t L a r.2.1))
noncomputable def runF (t : Temporal) (L : List Launch) (T : List Int) : List (List Int) × List Int × List simulate_Problem := T.foldl (runS t L) ([], t.Init, [])
theorem runF_snoc (T : List Int) (a : Int) : runF t L (T ++ [a]) = runS t L (runF t L T) a := by unfold runF; rw [List.foldl_append]; rfl
theorem Steps.det {S : List (List Int)} {P : List simulate_Problem} (h : Steps t L T S s P) (h20 : ∀ a, (evT t L a).length ≤ 20) : runF t L T = (S, s, P) := by
  induction h with
  | nil => rfl
  | snoc h h1 h2 ih =>
    have := h2 (h20 _)
    subst this
    rw [runF_snoc, ih]; rfl
theorem runF_steps (hA : Acc t L) (T : List Int) : Steps t L T (runF t L T).1 (runF t L T).2.1 (runF t L T).2.2 ∧ (runF t L T).2.1.length = t.Vars.length := by
  have h : ∀ n, n ≤ T.length → Steps t L (T.take n) (runF t L (T.take n)).1 (runF t L (T.take n)).2.1 (runF t L (T.take n)).2.2 ∧ (runF t L (T.take n)).2.1.length = t.Vars.length := by
    intro n
    induction n with
    | zero => intro _; exact ⟨.nil, hA.chk.ini⟩
    | succ n ih =>
      intro hn
      obtain ⟨i1, i2⟩ := ih (by omega)
      rw [take_snoc (by omega : n < T.length), runF_snoc]
      exact ⟨.snoc i1 (aftX_aft hA i2) fun _ => rfl, (aftX_len _).trans i2⟩
  have := h T.length (Nat.le_refl _)
  rwa [List.take_length] at this
theorem evT_len (hA : Acc t L) : (evT t L a).length ≤ L.length := by
  unfold evT
  rw [List.length_map]
  have h := ndShort (n := L.length) (L := (evI t L a).map Prod.fst) (by
    rw [List.Nodup, List.pairwise_map]
    refine List.Pairwise.imp_of_mem (fun {x y} hx hy hne e => hne ?_) (evI_nodup (t := t) (L := L) (a := a))
    have h1 := mem_evI.1 hx
    have h2 := mem_evI.1 hy
    obtain ⟨i, b⟩ := x
    obtain ⟨j, c⟩ := y
    simp only at e
    subst e
    have g : (lau L i).At < endT t (lau L i) ∧ _ := endT_gt hA.chk (hA.ok _ (lau_mem h1.1))
    have e1 := h1.2; have e2 := h2.2
    unfold tmH at e1 e2
    cases b <;> cases c <;> simp at e1 e2 ⊢ <;> omega) (by
    intro i hi
    obtain ⟨x, hx, rfl⟩ := List.mem_map.1 hi
    exact (mem_evI.1 hx).1)
  rw [List.length_map] at h
  exact h
def goalL (t : Temporal) (L : List Launch) (s : List Int) : List simulate_Problem := (lackF t.Goal s).flatMap fun f => [⟨mkS t L, 13, -1, -1, f.Var⟩]
theorem goalL_nil : goalL t L s = [] ↔ holdsB t.Goal s = true := by
  unfold goalL; rw [ones_nil, holdsB_lack]
theorem goalL_kind : ∀ p ∈ goalL t L s, p.Kind = 13 ∧ p.At = mkS t L := fun p hp => by
  unfold goalL at hp
  obtain ⟨f, _, hp⟩ := List.mem_flatMap.1 hp
  rw [List.mem_singleton] at hp
  subst hp; exact ⟨rfl, rfl⟩
/-! ### Validate, exactly -/
def ValS (t : Temporal) (L : List Launch) (T : List Int) (r : Int × Option Int) : Prop :=
  (r = (mkS t L, none) ∧ (runF t L T).2.2 ++ goalL t L (runF t L T).2.1 = []) ∨ ∃ z p q, r = (0, some z) ∧ (runF t L T).2.2 ++ goalL t L (runF t L T).2.1 = p :: q ∧ p.Kind = z ∧ (z = 18 ∨ z = 17 ∨ z = 12 ∨ z = 16 ∨ z = 13)
theorem runF_pre (T : List Int) : ∀ n, ∃ q, (runF t L T).2.2 = (runF t L (T.take n)).2.2 ++ q := fun n => by
  have h : ∀ (D : List Int) (r : List (List Int) × List Int × List simulate_Problem), ∃ q, (D.foldl (runS t L) r).2.2 = r.2.2 ++ q := by
    intro D
    induction D with
    | nil => intro r; exact ⟨[], by simp⟩
    | cons a D ih =>
      intro r
      obtain ⟨q, hq⟩ := ih (runS t L r a)
      exact ⟨_, by rw [List.foldl_cons, hq]; simp only [runS, List.append_assoc]; rfl⟩
  obtain ⟨q, hq⟩ := h (T.drop n) (runF t L (T.take n))
  refine ⟨q, ?_⟩
  rw [← hq]
  unfold runF
  rw [← List.foldl_append, List.take_append_drop]
theorem acc_accept (hA : Acc t L) : temporal_accept_p t L = some none := accept_none hA.check hA.len hA.ok
theorem Validate_s (hA : Acc t L) (hT : Ticks t L T) : Ok (temporal_Validate_p t L) (ValS t L T) := by
  unfold temporal_Validate_p
  refine Ok.step (acc_accept hA) ?_
  obtain ⟨M, hM, hm⟩ := happenings_ok hA
  simp only [Option.isSome_none, Bool.false_eq_true, if_false]
  refine Ok.step hM ?_
  have hT' := ticks_of hm
  generalize srtI (M.map Prod.fst) = T' at hT' ⊢
  have := hT.uniq hT'
  subst this
  show Ok (ctl (forC _ T.length 0 _) _ _) _
  refine Ok.ctl (fun i s => s = (runF t L (T.take i)).2.1 ∧ (runF t L (T.take i)).2.2 = []) (ValS t L T) ⟨rfl, rfl⟩ ?_ (fun r hr => ⟨r, rfl, hr⟩) ?_
  · rintro i s hi ⟨rfl, h2⟩
    have hq := Ticks.mem hT T[i] |>.1 (List.getElem_mem hi)
    obtain ⟨x, hx, ex⟩ := hq
    have hk := hA.ok _ (lau_mem hx)
    have he := endT_gt hA.chk hk
    have hI : i64ok T[i] := by
      rw [← ex]
      have := hk.a0; have := hk.a1
      unfold tmH
      constructor <;> split <;> omega
    have hst := (runF_steps hA (T.take i)).2
    refine Ok.step (by rw [idx_nat]; exact List.getElem?_eq_getElem hi) (Ok.step (hm.hget hI) (Ok.bind ((tick_s hA hst T[i]).mono ?_)))
    rintro ⟨s', e'⟩ hs
    have hnx : runF t L (T.take (i + 1)) = runS t L (runF t L (T.take i)) T[i] := by rw [take_snoc hi, runF_snoc]
    rcases hs.probs hA with ⟨g1, g2, g3⟩ | ⟨z, p, q, g1, g2, g3, g4⟩
    · simp only at g1 g2
      subst g1; subst g2
      refine ⟨_, rfl, by rw [hnx]; rfl, ?_⟩
      rw [hnx]
      show (runF t L (T.take i)).2.2 ++ _ = []
      rw [h2, g3]; rfl
    · simp only at g1
      subst g1
      refine ⟨_, rfl, .inr ?_⟩
      obtain ⟨q', hq'⟩ := runF_pre (t := t) (L := L) T (i + 1)
      rw [hnx] at hq'
      refine ⟨z, p, q ++ q' ++ goalL t L (runF t L T).2.1, rfl, ?_, g3, by omega⟩
      rw [hq']
      show (runF t L (T.take i)).2.2 ++ _ ++ q' ++ _ = _
      rw [h2, g2]; simp
  · rintro s ⟨rfl, h2⟩
    rw [List.take_length] at h2 ⊢
    refine Ok.step (Holds_ok _ _) (Ok.ite (fun h => ⟨_, rfl, .inr ?_⟩) fun h => Ok.step (makespan_ok hA) ⟨_, rfl, .inl ⟨rfl, ?_⟩⟩)
    · obtain ⟨p, q, e1, e2⟩ := head_kind (m := []) (fun p hp => (goalL_kind (t := t) (L := L) (s := (runF t L T).2.1) p hp).1) (fun e => by rw [goalL_nil.1 e] at h; simp at h)
      exact ⟨13, p, q, rfl, by rw [h2, ← e1]; simp, e2, by simp⟩
    · rw [h2, goalL_nil.2 (by simpa using h)]; rfl
/-! ### Run -/
theorem Run_loop {fu : Nat} (hfu : 1000 ≤ fu) (hA : Acc t L) (hn : L.length ≤ 40) (hT : Ticks t L T) {y : Int} {e : Option Int} (hv : temporal_Validate_p t L = some (y, e)) (he : e = none ∨ simulate_invalid_t e = true) :
    Ok (simulate_Run_p fu t L) fun r => ∃ S s P, Steps t L T S s P ∧ r = (none, ⟨allE t L T, S, P ++ goalL t L s, mkS t L⟩) := by
  unfold simulate_Run_p
  rw [hv]
  simp only [Option.bind_some, un2]
  rw [if_neg (by rcases he with rfl | he <;> simp_all), events_ok hA hn hT]
  simp only [Option.bind_some]
  unfold slices_Clone_int_p
  have hvn := hA.chk.vars
  have hini := hA.chk.ini
  refine Ok.bind (Ok.step (app_ok (by simp; omega)) ⟨_, rfl, ?_⟩)
  rw [List.nil_append]
  have hal := allE_len hT
  have htl := ticks_len hT
  refine Ok.whl (fun q => q.2.2.1 = allE t L T ∧ ∃ k, k ≤ T.length ∧ q.2.1 = (((T.take k).flatMap (evT t L)).length : Int) ∧ Steps t L (T.take k) q.2.2.2.1 q.1 q.2.2.2.2)
    (fun q => q.2.2.1 = allE t L T ∧ Steps t L T q.2.2.2.1 q.1 q.2.2.2.2) (fun _ => False) (fun q => ((allE t L T).length - q.2.1).toNat) ⟨rfl, 0, Nat.zero_le _, by simp, by simpa using Steps.nil⟩ ?_ (fun r hr => hr.elim) ?_
  · rintro ⟨s, i, z, S, P⟩ ⟨rfl, k, hk, hi, hst⟩
    simp only at hi hst
    simp only [un5]
    refine Ok.ite (fun hlt => ?_) fun hlt => ⟨_, rfl, rfl, ?_⟩
    · have hlt := dec_t hlt
      have hkT : k < T.length := by
        rcases Nat.lt_or_ge k T.length with h | h
        · exact h
        · have : k = T.length := by omega
          subst this
          rw [List.take_length] at hi
          unfold allE at hlt
          omega
      obtain ⟨pre, hpre⟩ : ∃ pre, (T.take k).flatMap (evT t L) = pre := ⟨_, rfl⟩
      obtain ⟨post, hpost⟩ : ∃ post, (T.drop (k + 1)).flatMap (evT t L) = post := ⟨_, rfl⟩
      have hall : allE t L T = pre ++ evT t L T[k] ++ post := by
        unfold allE
        rw [← hpre, ← hpost]
        conv => lhs; rw [← List.take_append_drop (k + 1) T, take_snoc hkT]
        rw [List.flatMap_append, List.flatMap_append]
        simp
      rw [hpre] at hi
      have hmid0 : 0 < (evT t L T[k]).length := by
        unfold evT; rw [List.length_map]
        exact List.length_pos_iff.2 (evI_ne hT (List.getElem_mem hkT))
      have hlen : (allE t L T).length = pre.length + (evT t L T[k]).length + post.length := by rw [hall]; simp; omega
      have hget : ∀ r, r < (evT t L T[k]).length → ∃ x, (allE t L T)[pre.length + r]? = some x ∧ x.At = T[k] := fun r hr => by
        rw [hall, List.getElem?_append_left (by simp; omega), List.getElem?_append_right (by omega)]
        refine ⟨(evT t L T[k])[r], by rw [Nat.add_sub_cancel_left, List.getElem?_eq_getElem hr], ?_⟩
        have := List.getElem_mem hr
        unfold evT at this
        obtain ⟨x, hx, e⟩ := List.mem_map.1 this
        have e : evX t L x = (evT t L T[k])[r] := e
        rw [← e]
        exact (mem_evI.1 hx).2
      have hpo : ∀ x ∈ post, T[k] < x.At := fun x hx => by
        rw [← hpost] at hx
        obtain ⟨b, hb, hx⟩ := List.mem_flatMap.1 hx
        unfold evT at hx
        obtain ⟨y, hy, rfl⟩ := List.mem_map.1 hx
        have e : (evX t L y).At = b := (mem_evI.1 hy).2
        rw [e]
        rw [List.mem_drop_iff_getElem] at hb
        obtain ⟨j, hj, rfl⟩ := hb
        exact List.pairwise_iff_getElem.1 hT.asc k _ hkT (by omega) (by omega)
      subst hi
      refine Ok.whl (fun q => ∃ r : Nat, r ≤ (evT t L T[k]).length ∧ q = ((pre.length + r : Nat) : Int)) (fun q => q = ((pre.length + (evT t L T[k]).length : Nat) : Int)) (fun _ => False) (fun q => (2000 - q).toNat) ⟨0, Nat.zero_le _, by simp⟩ ?_ (fun r hr => hr.elim) ?_
      · rintro q ⟨r, hr, rfl⟩
        obtain ⟨x0, h0, a0⟩ := hget 0 hmid0
        rw [Nat.add_zero] at h0
        by_cases hrl : r < (evT t L T[k]).length
        · obtain ⟨x, h1, a1⟩ := hget r hrl
          rw [if_pos (by simp; omega), idx_nat, h1, Option.bind_some, idx_nat, h0, Option.bind_some, Option.bind_some, a1, a0]
          simp only [decide_true, if_true]
          rw [wrap_id (by omega) (by omega)]
          exact ⟨_, rfl, ⟨r + 1, by omega, by omega⟩, by simp only; omega⟩
        · have : r = (evT t L T[k]).length := by omega
          subst this
          by_cases hend : post = []
          · subst hend
            simp only [List.length_nil] at hlen
            rw [if_neg (by simp; omega)]
            exact ⟨_, rfl, rfl⟩
          · obtain ⟨y, ys, hy⟩ := List.exists_cons_of_ne_nil hend
            have hg : (allE t L T)[pre.length + (evT t L T[k]).length]? = some y := by
              rw [hall, List.getElem?_append_right (by simp), hy]; simp
            have hpl : 0 < post.length := List.length_pos_iff.2 hend
            rw [if_pos (by simp; omega), idx_nat, hg, Option.bind_some, idx_nat, h0, Option.bind_some, Option.bind_some, a0]
            have := hpo y (by rw [hy]; simp)
            rw [if_neg (by simp; omega)]
            exact ⟨_, rfl, rfl⟩
      · rintro q rfl
        obtain ⟨x0, h0, a0⟩ := hget 0 hmid0
        rw [Nat.add_zero] at h0
        have hcut : cut (allE t L T) ((pre.length : Nat) : Int) ((pre.length + (evT t L T[k]).length : Nat) : Int) = some (evT t L T[k]) := by
          unfold cut
          rw [if_pos (by omega), hall]
          rw [Int.toNat_natCast, Int.toNat_natCast, List.take_append_of_le_length (by simp), List.take_of_length_le (by simp), List.drop_left]
        have hsl := hst.len hA hn
        have htk : (T.take k).length = k := by rw [List.length_take]; omega
        refine Ok.step (by rw [idx_nat]; exact h0) (Ok.step hcut ?_)
        rw [a0]
        refine Ok.bind ((run_tick_ok hfu hA hn (by simp only; omega) (by simp only; omega) hsl.1).mono ?_)
        rintro ⟨s', S', P'⟩ ⟨g1, g2, g3, g4⟩
        simp only at g1 g2 g3 g4
        subst g3; subst g4
        refine ⟨_, rfl, ⟨rfl, k + 1, hkT, ?_, ?_⟩, ?_⟩
        · rw [take_snoc hkT, List.flatMap_append, List.length_append, hpre]; simp
        · rw [take_snoc hkT]
          exact hst.snoc g1 g2
        · simp only; omega
    · have hlt := dec_f hlt
      have : k = T.length := by
        rcases Nat.lt_or_ge k T.length with h | h
        · exfalso
          have h1 : ((T.take k).flatMap (evT t L)).length + (T.drop k).length ≤ (allE t L T).length := by
            unfold allE
            conv => rhs; rw [← List.take_append_drop k T]
            rw [List.flatMap_append, List.length_append]
            have := flatMap_ge (l := T.drop k) (f := evT t L) fun a ha => by
              have := evI_ne hT (List.mem_of_mem_drop ha)
              unfold evT; simpa using this
            omega
          rw [List.length_drop] at h1
          omega
        · omega
      subst this
      rwa [List.take_length] at hst
  · rintro ⟨s, i, z, S, P⟩ ⟨rfl, hst⟩
    simp only at hst
    simp only [un5]
    have hsl := hst.len hA hn
    have hg64 := len64 hA.chk.goal hA.chk.vars
    have hlk := lackF_len t.Goal s
    refine Ok.step (missing_ok s (by omega)) (Ok.bind (Ok.of (a := P ++ goalL t L s) (lack_loop (by omega) fun k f out hf ho => ?_) ?_))
    · rw [idx_nat, hf, Option.bind_some, report_ok (by simp only; omega)]; rfl
    refine Ok.bind (Ok.forS (fun _ S' => S' = S) rfl ?_ fun S' h => ⟨_, rfl, S, s, P, hst, by rw [h]⟩)
    rintro j _ hj rfl
    rename_i S
    have hx : S[j] ∈ S := List.getElem_mem hj
    refine Ok.step (by rw [idx_nat]; exact List.getElem?_eq_getElem hj) ?_
    refine Ok.bind (Ok.step (app_ok (by simp; have := hsl.2.2.2 _ hx; omega)) ⟨_, rfl, ?_⟩)
    show Ok ((setI S (j : Int) ([] ++ S[j])).bind _) _
    rw [List.nil_append, setI_nat hj]
    exact ⟨_, rfl, by simp⟩
end
end Go.Pw
/-
  Simulation: Run in all cases; the laws' small functions; the example.
-/
set_option maxRecDepth 100000
namespace Go.Pw
def CdE (e : Option Int) : Prop := ∀ z, e = some z → z = 1 ∨ z = 2 ∨ z = 5 ∨ z = 8
theorem CdE.none : CdE none := fun z h => by cases h
theorem Check_codes {t : Temporal} (ht : Tight t) : Ok (temporal_Check_p t) CdE := by
  have c1 : CdE (some 1) := fun z h => by cases h; simp
  have c2 : CdE (some 2) := fun z h => by cases h; simp
  have c5 : CdE (some 5) := fun z h => by cases h; simp
  have c8 : CdE (some 8) := fun z h => by cases h; simp
  unfold temporal_Check_p
  refine Ok.step (lists_ok ht.jobs) (Ok.bind (Ok.mono (P := fun _ => True) ?_ fun z _ => Ok.ite (fun _ => ⟨_, rfl, c5⟩) fun _ => ?_))
  · refine Ok.ite (fun _ => ⟨_, rfl, trivial⟩) fun _ => Ok.ite (fun _ => ⟨_, rfl, trivial⟩) fun _ => Ok.bind ((contains1_ok _).mono fun z _ => ⟨_, rfl, trivial⟩)
  refine Ok.ctl (fun _ _ => True) CdE trivial ?_ (fun r hr => ⟨r, rfl, hr⟩) fun _ _ => ?_
  · intro j _ hj _
    refine Ok.step (by rw [idx_nat, List.getElem?_eq_getElem hj]) ?_
    exact Ok.ite (fun _ => ⟨_, rfl, c1⟩) fun _ => ⟨_, rfl, trivial⟩
  refine Ok.ctl (fun _ _ => True) CdE trivial ?_ (fun r hr => ⟨r, rfl, hr⟩) fun _ _ => ?_
  · intro j _ hj _
    refine Ok.step (by rw [idx_nat, List.getElem?_eq_getElem hj]) ?_
    exact Ok.ite (fun _ => ⟨_, rfl, c1⟩) fun _ => ⟨_, rfl, trivial⟩
  refine Ok.bind (Ok.mono (P := fun _ => True) (Ok.bind ((Proper_ok t.Vars t.Init).mono fun b _ => Ok.ite (fun _ => ⟨_, rfl, trivial⟩) fun _ => Ok.bind ((contains2_ok (listsOf t) t).mono fun c _ => ⟨_, rfl, trivial⟩))) fun z _ => Ok.ite (fun _ => ⟨_, rfl, c2⟩) fun _ => ?_)
  refine Ok.ctl (fun _ _ => True) CdE trivial ?_ (fun r hr => ⟨r, rfl, hr⟩) fun _ _ => ⟨_, rfl, CdE.none⟩
  intro j _ hj _
  refine Ok.step (by rw [idx_nat, List.getElem?_eq_getElem hj]) ?_
  refine Ok.bind ((named_ok (ht.name _ (List.getElem_mem hj))).mono fun y _ => ?_)
  exact Ok.ite (fun _ => ⟨_, rfl, c8⟩) fun _ => ⟨_, rfl, trivial⟩
theorem accept_codes {t : Temporal} (ht : Tight t) (L : List Launch) : Ok (temporal_accept_p t L) CdE := by
  have c1 : CdE (some 1) := fun z h => by cases h; simp
  have c5 : CdE (some 5) := fun z h => by cases h; simp
  unfold temporal_accept_p
  refine Ok.bind ((Check_codes ht).mono fun e he => Ok.ite (fun _ => ⟨_, rfl, he⟩) fun _ => Ok.ite (fun _ => ⟨_, rfl, c5⟩) fun _ => ?_)
  refine Ok.ctl (fun _ _ => True) CdE trivial ?_ (fun r hr => ⟨r, rfl, hr⟩) fun _ _ => ⟨_, rfl, CdE.none⟩
  intro j _ hj _
  refine Ok.step (by rw [idx_nat, List.getElem?_eq_getElem hj]) ?_
  exact Ok.ite (fun _ => ⟨_, rfl, c1⟩) fun _ => ⟨_, rfl, trivial⟩
theorem ticks_ex {t : Temporal} {L : List Launch} (hA : Acc t L) : ∃ T, Ticks t L T := by
  obtain ⟨M, _, hm⟩ := happenings_ok hA
  exact ⟨_, ticks_of hm⟩
/-- What is not accepted. -/
def RunBad (t : Temporal) (L : List Launch) (r : Option Int × simulate_Report) : Prop :=
  ¬ Acc t L ∧ ∃ z, (z = 1 ∨ z = 2 ∨ z = 5 ∨ z = 8) ∧ temporal_accept_p t L = some (some z) ∧ temporal_Validate_p t L = some (0, some z) ∧ r = (some z, ⟨[], [], [], 0⟩)
def RunGood (t : Temporal) (L : List Launch) (r : Option Int × simulate_Report) : Prop :=
  Acc t L ∧ ∃ T S s P, Ticks t L T ∧ Steps t L T S s P ∧ r = (none, ⟨allE t L T, S, P ++ goalL t L s, mkS t L⟩)
theorem Run_ok {fu : Nat} (hfu : 1000 ≤ fu) {t : Temporal} (ht : Tight t) {L : List Launch} (hn : L.length ≤ 40) : Ok (simulate_Run_p fu t L) fun r => RunBad t L r ∨ RunGood t L r := by
  obtain ⟨e, he, hc⟩ := accept_ok ht L
  obtain ⟨e', he', hcd⟩ := accept_codes ht L
  rw [he] at he'
  cases he'
  cases e with
  | some z =>
    have hnA : ¬ Acc t L := fun hA => by rw [acc_accept hA] at he; cases he
    have hz := hcd z rfl
    have hv : temporal_Validate_p t L = some (0, some z) := by
      unfold temporal_Validate_p
      rw [he]; rfl
    refine ⟨(some z, ⟨[], [], [], 0⟩), ?_, .inl ⟨hnA, z, hz, he, hv, rfl⟩⟩
    unfold simulate_Run_p
    rw [hv, Option.bind_some]
    simp only [un2]
    rw [if_pos]
    unfold simulate_invalid_t
    rcases hz with rfl | rfl | rfl | rfl <;> rfl
  | none =>
    have hA := hc rfl
    obtain ⟨T, hT⟩ := ticks_ex hA
    obtain ⟨⟨y, e⟩, h1, h2⟩ := Validate_s hA hT
    have hi : e = none ∨ simulate_invalid_t e = true := by
      rcases h2 with ⟨h2, _⟩ | ⟨z, p, q, h2, _, _, hz⟩
      · cases h2; exact .inl rfl
      · cases h2
        refine .inr ?_
        unfold simulate_invalid_t
        rcases hz with rfl | rfl | rfl | rfl | rfl <;> rfl
    refine (Run_loop hfu hA hn hT h1 hi).mono fun r hr => .inr ⟨hA, ?_⟩
    obtain ⟨S, s, P, g1, g2⟩ := hr
    exact ⟨T, S, s, P, hT, g1, g2⟩
/-- .. for few launches. -/
theorem RunGood.few {t : Temporal} {L : List Launch} (hn : L.length ≤ 20) {r : Option Int × simulate_Report} (h : RunGood t L r) : Acc t L ∧ ∃ T, Ticks t L T ∧ r = (none, ⟨allE t L T, (runF t L T).1, (runF t L T).2.2 ++ goalL t L (runF t L T).2.1, mkS t L⟩) := by
  obtain ⟨hA, T, S, s, P, hT, hs, e⟩ := h
  have := hs.det fun a => by have := evT_len hA (a := a); omega
  refine ⟨hA, T, hT, ?_⟩
  rw [this, e]
theorem few_ok (t : Temporal) (L : List Launch) : Ok (law58_few_p t L) fun b => b = true → Tight t ∧ L.length ≤ 20 := by
  unfold law58_few_p
  refine Ok.ite (fun _ => ⟨_, rfl, fun h => by cases h⟩) fun h => ?_
  simp only [Bool.or_eq_false_iff, decide_eq_false_iff_not] at h
  refine Ok.ctl (fun j _ => ∀ x ∈ t.Jobs.take j, (x.Name.size : Int) ≤ 300) (fun r => r = false) (by simp) ?_ (fun r hr => ⟨r, rfl, fun h => by rw [hr] at h; cases h⟩) fun _ hs => ⟨_, rfl, fun _ => ⟨⟨by omega, fun j hj => ?_⟩, by omega⟩⟩
  · intro j _ hj hi
    refine Ok.step (by rw [idx_nat, List.getElem?_eq_getElem hj]) ?_
    refine Ok.ite (fun _ => ⟨_, rfl, rfl⟩) fun hc => ⟨_, rfl, fun x hx => ?_⟩
    rw [take_snoc hj] at hx
    rcases List.mem_append.1 hx with hx | hx
    · exact hi x hx
    · have : x = t.Jobs[j] := by simpa using hx
      subst this
      simp only [Bool.or_eq_false_iff, decide_eq_false_iff_not] at hc
      omega
  · rw [List.take_length] at hs
    have := hs j hj; omega
theorem Ints_refl (a : List Int) : base_Ints_p a a = some true := by
  unfold base_Ints_p
  rw [if_neg (by simp), ctl_list (p := fun _ => true) (r := false)]
  · simp
  · intro j x hx
    rw [idx_nat, hx, Option.bind_some, Option.bind_some, if_neg (by simp)]
    rfl
theorem Same_refl (a : List (List Int)) : ref58_Same_p a a = some true := by
  unfold ref58_Same_p
  rw [if_neg (by simp), ctl_list (p := fun _ => true) (r := false)]
  · simp
  · intro j x hx
    rw [idx_nat, hx, Option.bind_some, Option.bind_some, Ints_refl, Option.bind_some]
    rfl
/-! ### the example -/
def planE : List Launch := [⟨0, 0⟩, ⟨1, 1⟩]
theorem lamp_tight : Tight law58_lamp_t := ⟨by unfold law58_lamp_t; decide, by
  unfold law58_lamp_t
  intro j hj
  simp only [List.mem_cons, List.not_mem_nil, or_false] at hj
  rcases hj with rfl | rfl <;> decide⟩
theorem lamp_accept : temporal_accept_p law58_lamp_t planE = some none := by kernel_rfl
theorem lamp_ticks : Ticks law58_lamp_t planE [0, 1, 2, 3] := by
  have e : ∀ x : Nat × Bool, x.1 < planE.length → x = (0, false) ∨ x = (0, true) ∨ x = (1, false) ∨ x = (1, true) := fun ⟨i, b⟩ h => by
    have : i < 2 := h
    rcases (by omega : i = 0 ∨ i = 1) with rfl | rfl <;> cases b <;> simp
  have t0 : tmH law58_lamp_t planE (0, false) = 0 := by kernel_rfl
  have t1 : tmH law58_lamp_t planE (0, true) = 3 := by kernel_rfl
  have t2 : tmH law58_lamp_t planE (1, false) = 1 := by kernel_rfl
  have t3 : tmH law58_lamp_t planE (1, true) = 2 := by kernel_rfl
  refine ⟨by decide, fun a => ⟨fun h => ?_, fun ⟨x, hx, h⟩ => ?_⟩⟩
  · simp only [List.mem_cons, List.not_mem_nil, or_false] at h
    rcases h with rfl | rfl | rfl | rfl
    · exact ⟨(0, false), by decide, t0⟩
    · exact ⟨(1, false), by decide, t2⟩
    · exact ⟨(1, true), by decide, t3⟩
    · exact ⟨(0, true), by decide, t1⟩
  · rcases e x hx with rfl | rfl | rfl | rfl
    · rw [← h, t0]; decide
    · rw [← h, t1]; decide
    · rw [← h, t2]; decide
    · rw [← h, t3]; decide
theorem awake_ok {fu : Nat} (hfu : 1000 ≤ fu) : law58_awake_p fu = some true := by
  obtain ⟨r, h1, h2⟩ := Run_ok hfu lamp_tight (L := planE) (by decide)
  have hA : Acc law58_lamp_t planE := by
    obtain ⟨e, he, hc⟩ := accept_ok lamp_tight planE
    rw [lamp_accept] at he
    cases he
    exact hc rfl
  rcases h2 with ⟨h2, _⟩ | h2
  · exact absurd hA h2
  obtain ⟨_, T, hT, rfl⟩ := h2.few (by decide)
  have := hT.uniq lamp_ticks
  subst this
  have hP : (runF law58_lamp_t planE [0, 1, 2, 3]).2.2 ++ goalL law58_lamp_t planE (runF law58_lamp_t planE [0, 1, 2, 3]).2.1 = [⟨1, 16, 0, -1, 0⟩, ⟨2, 16, 0, -1, 0⟩] := by kernel_rfl
  have hm : mkS law58_lamp_t planE = 3 := by kernel_rfl
  have hS : (runF law58_lamp_t planE [0, 1, 2, 3]).1.length = 4 := by kernel_rfl
  have hE : (allE law58_lamp_t planE [0, 1, 2, 3]).length = 4 := allE_len lamp_ticks
  unfold law58_awake_p
  rw [show ([(⟨0, 0⟩ : Launch), ⟨1, 1⟩]) = planE from rfl, h1, hP, hm]
  simp only [Option.bind_some, un2, hS, hE]
  rfl
end Go.Pw
/-
  P58.2: Validate and Run agree (plain).
-/
namespace Go.Pw
theorem num_ok (e : Option Int) : base_Num_t e = e.getD 0 := by
  unfold base_Num_t; cases e <;> rfl
theorem law_hd {fu : Nat} (hfu : 1000 ≤ fu) {t : Temporal} {L : List Launch} {body : Option Bool} (h : Tight t → L.length ≤ 20 → body = some true) :
    (((law58_awake_p fu).bind fun (y100 : Bool) => if !y100 then (some true) else ((law58_few_p t L).bind <| fun (y101 : Bool) => some (!y101))).bind (fun (z100 : Bool) => if z100 then ((law58_awake_p fu).bind <| fun (y102 : Bool) => some y102) else body)) = some true := by
  rw [awake_ok hfu]
  obtain ⟨b, h1, h2⟩ := few_ok t L
  simp only [Option.bind_some, h1]
  cases b with
  | false => rfl
  | true =>
    obtain ⟨g1, g2⟩ := h2 rfl
    simpa using h g1 g2
end Go.Pw
