/-
  The laws' small functions, and the example.
-/
import Derived.Test.YtoofdhjblbnppaaGreatYzHJJ
import Derived.KernelRfl
set_option linter.unusedVariables false
set_option linter.unusedSimpArgs false
set_option maxRecDepth 100000
namespace Go.Pw
theorem few_ok (t : Temporal) (L : List Launch) : Ok (law57_few_p t L) fun b => b = true → Tight t ∧ L.length ≤ 12 := by
  unfold law57_few_p
  refine Ok.ite (fun _ => ⟨_, rfl, fun h => by cases h⟩) fun h => ?_
  simp only [Bool.or_eq_false_iff, decide_eq_false_iff_not] at h
  refine Ok.ctl (fun j _ => ∀ x ∈ t.Jobs.take j, (x.Name.size : Int) ≤ 300) (fun r => r = false) (by simp) ?_ (fun r hr => ⟨r, rfl, fun h => by rw [hr] at h; cases h⟩) fun _ hs => ⟨_, rfl, fun _ => ⟨⟨by omega, fun j hj => ?_⟩, by omega⟩⟩
  · intro j _ hj hi
    refine Ok.step (by rw [idx_nat, List.getElem?_eq_getElem hj]) ?_
    refine Ok.ite (fun _ => ⟨_, rfl, rfl⟩) fun hc => ⟨_, rfl, fun x hx => ?_⟩
    rw [take_snoc hj] at hx
    rcases List.mem_append.1 hx with hx | hx
    · exact hi x hx
    · have : x = t.Jobs[j] := by simpa using hx
      subst this
      simp only [Bool.or_eq_false_iff, decide_eq_false_iff_not] at hc
      omega
  · rw [List.take_length] at hs
    have := hs j hj; omega
theorem equal_refl (a : List Launch) : law57_equal_p a a = some true := by
  unfold law57_equal_p
  rw [if_neg (by simp), ctl_list (p := fun _ => true) (r := false)]
  · simp
  · intro j x hx
    rw [idx_nat, hx, Option.bind_some, Option.bind_some, if_neg (by simp [eqs])]
    rfl
theorem Ints_refl (a : List Int) : base_Ints_p a a = some true := by
  unfold base_Ints_p
  rw [if_neg (by simp), ctl_list (p := fun _ => true) (r := false)]
  · simp
  · intro j x hx
    rw [idx_nat, hx, Option.bind_some, Option.bind_some, if_neg (by simp)]
    rfl
/-! ### the example -/
def planE : List Launch := [⟨4, 0⟩, ⟨5, 2⟩, ⟨10, 1⟩]
def mapE : List (Int × List temporal_happening) := [(4, [⟨0, false⟩]), (6, [⟨0, true⟩, ⟨2, true⟩]), (5, [⟨2, false⟩]), (10, [⟨1, false⟩]), (13, [⟨1, true⟩])]
theorem delivery_tight : Tight law57_delivery_t := ⟨by unfold law57_delivery_t; decide, by
  unfold law57_delivery_t
  intro j hj
  simp only [List.mem_cons, List.not_mem_nil, or_false] at hj
  rcases hj with rfl | rfl | rfl <;> decide⟩
theorem happenE : temporal_happenings_p law57_delivery_t planE = some (mapE, [4, 5, 6, 10, 13]) := by
  unfold temporal_happenings_p
  have h1 : forS (fun i100 => fun (l100 : (List (Int × (List temporal_happening)))) => (idx planE (i100 : Int)).bind fun x100 =>
      (hmapGet l100 x100.At).bind fun r100 => (app 16 r100 [(⟨x100.Job, false⟩ : temporal_happening)]).bind fun l101 => (hmapPut l100 x100.At l101).bind fun m100 =>
      (temporal_end_p law57_delivery_t x100).bind <| fun (y100 : Int) => (hmapGet m100 y100).bind fun r101 => (app 16 r101 [(⟨x100.Job, true⟩ : temporal_happening)]).bind fun l102 =>
      (hmapPut m100 y100 l102).bind fun m101 => some m101) (planE.length) 0 ([] : (List (Int × (List temporal_happening)))) = some mapE := by kernel_rfl
  rw [h1, Option.bind_some]
  refine rangeK_eq fun ord ho => ?_
  have hlen : ord.length = 5 := ho.length_eq
  rw [foldK_app ord [] (by simp; omega)]
  simp only [List.nil_append, Option.bind_some, sortInts_p]
  rw [if_pos (by omega)]
  simp only [Option.bind_some]
  have e : (ord.mergeSort fun x y => decide (x ≤ y)) = [4, 5, 6, 10, 13] := srtI_uniq (List.Perm.trans (by decide : ([4, 5, 6, 10, 13] : List Int).Perm [4, 6, 5, 10, 13]) ho.symm) (by decide)
  rw [e]
theorem ValidE : temporal_Validate_p law57_delivery_t planE = some (13, none) := by
  unfold temporal_Validate_p
  rw [happenE]
  kernel_rfl
theorem AccE : Acc law57_delivery_t planE ∧ Fine law57_delivery_t planE := by
  obtain ⟨r, h1, h2, _⟩ := Validate_ok delivery_tight planE
  rw [ValidE] at h1
  cases h1
  exact h2.1 rfl
theorem srtE : srtL planE = planE := srtL_uniq (.refl _) (by unfold planE LeL; simp)
noncomputable def netK (p : schedule_plan) : List Bound × Option Int → Option ((Option stn_Network) × (Option Int)) := un2 fun (y100 : (List Bound)) (y101 : (Option Int)) =>
  if y101.isSome then (some (none, y101))
  else ((stn_New_p (IntKind.i64.wrap ((IntKind.i64.wrap (2 * (p.launches.length : Int))) + 1))).bind <| un2 fun (pd100 : (Option stn_Network)) (y102 : (Option Int)) =>
  optC pd100 (if y102.isSome then (some (none, y102))
  else (ctl (forC (R := ((Option stn_Network) × (Option Int))) (fun i100 => fun (_ : Unit) => (idx y100 (i100 : Int)).bind fun x100 =>
  if (stn_Network_Add_nil_t x100).isSome then (some (Ctl.ret (none, (stn_Network_Add_nil_t x100))))
  else (some (Ctl.next ()))) (y100.length) 0 ()) (fun r => some r) (fun (_ : Unit) => some (none, none)))) (fun d100 => if y102.isSome then (some (none, y102))
  else (ctl (forC (R := ((Option stn_Network) × (Option Int))) (fun i101 => fun (l100 : (List (List Int))) => (idx y100 (i101 : Int)).bind fun x101 =>
  (stn_Network_Add_p (⟨l100⟩ : stn_Network) x101).bind <| un2 fun (y103 : (Option Int)) (l101 : (List (List Int))) =>
  if y103.isSome then (some (Ctl.ret (none, y103)))
  else (some (Ctl.next l101))) (y100.length) 0 d100.d) (fun r => some r) (fun (l102 : (List (List Int))) => some (some (⟨l102⟩ : stn_Network), none)))))
theorem netK_eq (p : schedule_plan) : schedule_plan_network_p p = (schedule_plan_bounds_p p).bind (netK p) := rfl
theorem awake_ok : law57_awake_p = some true := by
  obtain ⟨hA, hF⟩ := AccE
  have hr := read_ok delivery_tight hA hF (by decide)
  rw [srtE] at hr
  have hn : schedule_plan_network_p (planOf law57_delivery_t planE) = netK (planOf law57_delivery_t planE) (BD law57_delivery_t planE, none) := by
    rw [netK_eq, bounds_ok hA (by decide)]; rfl
  have hS : schedule_Shift_p law57_delivery_t planE = some ([⟨0, 0⟩, ⟨0, 2⟩, ⟨3, 1⟩], none) := by
    unfold schedule_Shift_p
    rw [hr, Option.bind_some]
    simp only [un2, optC, Option.isSome_none, Bool.false_eq_true, if_false]
    rw [hn]
    kernel_rfl
  have hK : schedule_Slack_p law57_delivery_t planE = some ([0, 5, 0], none) := by
    unfold schedule_Slack_p
    rw [hr, Option.bind_some]
    simp only [un2, optC, Option.isSome_none, Bool.false_eq_true, if_false]
    rw [hn]
    kernel_rfl
  unfold law57_awake_p
  rw [show ([(⟨4, 0⟩ : Launch), ⟨5, 2⟩, ⟨10, 1⟩]) = planE from rfl, hS, hK]
  simp only [Option.bind_some, un2, Option.isNone_none, if_true]
  rw [equal_refl, Ints_refl]
  rfl
end Go.Pw
/-
  P57.2: the network of a plan in the laws; ScheduleGiven.
-/
namespace Go.Pw
section
variable {t : Temporal} {L S : List Launch}
end
end Go.Pw
/-
  P57.3: ScheduleLeast.
-/
namespace Go.Pw
section
variable {t : Temporal} {L S : List Launch}
/-- The least solution is a plan that is fine. -/
structure Moved (t : Temporal) (S : List Launch) (U : Nat → Int) : Prop where
  acc : Acc t (LU S U)
  fine : Fine t (LU S U)
  le : ∀ i, i < S.length → 0 ≤ U i ∧ U i ≤ (lau S i).At
theorem Shifted.moved {U : Nat → Int} (h : Shifted t S U) (hA : Acc t S) (hF : Fine t S) (hs : SL S) : Moved t S U := by
  have hle := fun i hi => h.le _ (Sol.self hA hF hs) i hi
  have hr := h.sol.resch hA hs fun i hi => by have := hle i hi; have := (hA.ok _ (lau_mem hi)).a1; omega
  exact ⟨hr.acc hA, hr.fine hA hF, fun i hi => ⟨h.sol.st i hi, hle i hi⟩⟩
end
end Go.Pw
