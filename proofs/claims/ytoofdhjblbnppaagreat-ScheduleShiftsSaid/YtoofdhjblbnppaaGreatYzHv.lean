/-
  P57.1: ScheduleShifts.
-/
import Derived.Test.YtoofdhjblbnppaaGreatYzHTT
import Derived.Test.YtoofdhjblbnppaaGreatYzHRR
import Derived.Test.YtoofdhjblbnppaaGreatYzNN
set_option linter.unusedVariables false
set_option linter.unusedSimpArgs false
namespace Go.Pw
section
variable {t : Temporal} {L S : List Launch}
/-- The reference's distances, where some times satisfy the bounds. -/
theorem dist_sat {n : Nat} (hn : n ≤ 128) (hn0 : 0 < n) {E : List Bound} (hE : ∀ b ∈ E, Rt n b) {T : Nat → Int} (hs : Sat E T) : ∃ d f, ref54_Distances_p (n : Int) E = some (d, true) ∧ Mx n d f ∧ Cl (GrOf E) n n f ∧ ∀ i, i < n → f i i = 0 := by
  obtain ⟨⟨d, b⟩, h1, h2⟩ := Distances_ok n hn hn0 E hE
  rcases h2 with ⟨h3, f, h4, h5, h6⟩ | ⟨_, i, w, W, hi, hw, hlt⟩
  · have h3 : b = true := h3
    subst h3
    exact ⟨d, f, h1, h4, h5, h6⟩
  · have := hs.walk hw
    omega
theorem cell {n : Nat} {d : List (List Int)} {f : MM} (h : Mx n d f) {i j : Nat} (hi : i < n) (hj : j < n) {β : Type} {g : Int → Option β} : ((idx d (i : Int)).bind fun row => (idx row (j : Int)).bind g) = g (f i j) := by
  obtain ⟨row, r1, r2, r3⟩ := h.row hi
  rw [r1, Option.bind_some, r3 j hj, Option.bind_some]
theorem RShift_ok (hA : Acc t L) (hF : Fine t L) (hl : L.length ≤ 63) : ∃ U, Shifted t (srtL L) U ∧ ref57_Shift_p t L = some (LU (srtL L) U) := by
  have hp := (srtL_perm L).symm
  have hAS := hA.perm hp
  have hFS := hF.perm hp
  have hlen : (srtL L).length = L.length := (srtL_perm L).length_eq
  have hsat := (Sol.self hAS hFS (SL.of (srtL_le L))).sat hAS hFS
  unfold ref57_Shift_p
  rw [RNetwork_ok hA hl, Option.bind_some]
  simp only [un2]
  rw [Sorted_ok hA.len, show 2 * (L.length : Int) + 1 = ((2 * (srtL L).length + 1 : Nat) : Int) by omega]
  rw [← hlen] at hl
  generalize srtL L = S at *
  obtain ⟨d, f, h1, hd, hcl, hdi⟩ := dist_sat (n := 2 * S.length + 1) (by omega) (by omega) (BD_rt hAS) hsat
  have hLe := least_of hAS hl hcl hdi
  refine ⟨_, hLe.shifted hAS hFS, ?_⟩
  rw [h1, Option.bind_some]
  show (Option.bind (some S) _) = _
  rw [Option.bind_some]
  refine Ok.eq (Ok.bind (Ok.forS (fun j out => out = (LU S fun i => -(f (2 * i + 1) 0)).take j) (by simp) ?_ fun s hs => ⟨_, rfl, by rw [hs, ← LU_len S (fun i => -(f (2 * i + 1) 0)), List.take_length]⟩))
  rintro j out hj rfl
  refine Ok.step (by rw [idx_nat]; exact lau_get hj) ?_
  rw [rpoint (by omega), show ptH (j, false) = ((2 * j + 1 : Nat) : Int) by simp [ptH], show (0 : Int) = ((0 : Nat) : Int) from rfl, cell hd (by omega) (by omega)]
  have hr := hLe.rng j hj
  have hq := hLe.fin j hj
  rw [show ((0 : Nat) : Int) - f (2 * j + 1) 0 = -(f (2 * j + 1) 0) by omega, wrap_id (by omega) (by omega)]
  refine Ok.step (app_ok (by simp [LU_len]; omega)) ⟨_, rfl, ?_⟩
  have hj' : j < (LU S fun i => -(f (2 * i + 1) 0)).length := by rw [LU_len]; exact hj
  rw [take_snoc hj']
  have e : (LU S fun i => -(f (2 * i + 1) 0))[j] = lau (LU S fun i => -(f (2 * i + 1) 0)) j := by simp [lau, hj']
  rw [e, LU_lau hj]
theorem Shifted.uniq {U V : Nat → Int} (h : Shifted t S U) (h' : Shifted t S V) : LU S U = LU S V := by
  apply List.ext_getElem?
  intro i
  by_cases c : i < S.length
  · have h1 := h.le _ h'.sol i c
    have h2 := h'.le _ h.sol i c
    rw [lau_get (by rw [LU_len]; exact c), lau_get (by rw [LU_len]; exact c), LU_lau c, LU_lau c, show U i = V i by omega]
  · rw [List.getElem?_eq_none (by rw [LU_len]; omega), List.getElem?_eq_none (by rw [LU_len]; omega)]
theorem RSlack_ok (hA : Acc t L) (hF : Fine t L) (hl : L.length ≤ 63) {U : Nat → Int} {f : MM} (hsh : Shifted t (srtL L) U) (hmv : Moved t (srtL L) U) (hsUB : Sat (BD t (srtL L) ++ UB (srtL L).length (mkS t (LU (srtL L) U))) (tmN t (srtL L) U)) (hSO : SlackOf t (srtL L) U (mkS t (LU (srtL L) U)) f) (hR : ref57_Shift_p t L = some (LU (srtL L) U)) :
    ref57_Slack_p t L = some ((List.range (srtL L).length).map fun i => f 0 (2 * i + 1) - U i) := by
  have hp := (srtL_perm L).symm
  have hAS := hA.perm hp
  have hlen : (srtL L).length = L.length := (srtL_perm L).length_eq
  unfold ref57_Slack_p
  rw [RNetwork_ok hA hl, Option.bind_some]
  simp only [un2]
  rw [hR, Option.bind_some, rmk_ok hmv.acc, Option.bind_some, show 2 * (L.length : Int) + 1 = ((2 * (srtL L).length + 1 : Nat) : Int) by omega]
  rw [← hlen] at hl
  have hm := mk_rng hmv.acc
  generalize srtL L = S at *
  have hb := BD_len (t := t) hl
  have hadd : forS (fun i100 => fun (l100 : (List Bound)) => (app 24 l100 [(⟨0, (ref57_point_t (i100 : Int) true), mkS t (LU S U)⟩ : Bound)]).bind fun l101 => some l101) ((LU S U).length) 0 (BD t S) = some (BD t S ++ UB S.length (mkS t (LU S U))) := by
    rw [LU_len]
    refine Ok.eq (Ok.forS (fun j l => l = BD t S ++ (List.range j).map fun i : Nat => ⟨0, 2 * (i : Int) + 2, mkS t (LU S U)⟩) (by simp) ?_ fun l hl => hl)
    rintro j l hj rfl
    refine Ok.step (app_ok (by simp; omega)) ⟨_, rfl, ?_⟩
    rw [range_snoc_map, rpoint (by omega), ← List.append_assoc]
    rfl
  rw [hadd, Option.bind_some]
  obtain ⟨d, f2, h1, hd, hcl, hdi⟩ := dist_sat (n := 2 * S.length + 1) (by omega) (by omega) (E := BD t S ++ UB S.length (mkS t (LU S U))) (fun b hb => by
    rcases List.mem_append.1 hb with h | h
    · exact BD_rt hAS b h
    · exact UB_rt hm _ b h) hsUB
  rw [h1, Option.bind_some]
  rw [LU_len]
  refine Ok.eq (Ok.bind (Ok.forS (fun j out => out = (List.range j).map fun i => f 0 (2 * i + 1) - U i) rfl ?_ fun out ho => ⟨_, rfl, ho⟩))
  rintro j out hj rfl
  have g1 := hSO.ge j hj
  have g2 := hSO.le j hj
  have g3 := hmv.le j hj
  have g4 := (hAS.chk.job _ (jb_mem (hAS.ok _ (lau_mem hj)))).dur
  have g5 := (hAS.ok _ (lau_mem hj)).a1
  have g6 : f2 0 (2 * j + 1) = f 0 (2 * j + 1) := hcl.uniq hSO.cl (by omega) (by omega)
  refine Ok.step (by rw [idx_nat]; exact lau_get (by rw [LU_len]; exact hj)) ?_
  rw [rpoint (by omega), show ptH (j, false) = ((2 * j + 1 : Nat) : Int) by simp [ptH], show (0 : Int) = ((0 : Nat) : Int) from rfl, cell hd (by omega) (by omega), g6, LU_lau hj]
  rw [wrap_id (by simp only; omega) (by simp only; omega)]
  refine Ok.step (app_ok (by simp; omega)) ⟨_, rfl, ?_⟩
  show _ = (List.range (j + 1)).map _
  rw [range_snoc_map]
theorem Shifts_law (t : Temporal) (L : List Launch) : law57_ScheduleShifts_p t L = some true := by
  unfold law57_ScheduleShifts_p
  refine Ok.eq ?_
  rw [awake_ok, Option.bind_some]
  simp only [Bool.not_true, Bool.false_eq_true, if_false]
  obtain ⟨b, hb, hfew⟩ := few_ok t L
  rw [hb]
  cases b with
  | false => exact ⟨true, rfl, rfl⟩
  | true =>
    obtain ⟨ht, hl⟩ := hfew rfl
    show Ok ((temporal_Validate_p t L).bind _) _
    obtain ⟨⟨m, e⟩, h1, h2, h3⟩ := Validate_ok ht L
    rw [h1, Option.bind_some]
    cases e with
    | some z => exact ⟨true, rfl, rfl⟩
    | none =>
      obtain ⟨hA, hF⟩ := h2.1 rfl
      obtain ⟨U, f, hsh, hmv, hsUB, hSO, hSh, hSl⟩ := Slack_ok ht hA hF (by omega)
      obtain ⟨V, hV, hRS⟩ := RShift_ok hA hF (by omega)
      rw [hV.uniq hsh] at hRS
      have hRK := RSlack_ok hA hF (by omega) hsh hmv hsUB hSO hRS
      simp only [un2, Option.isSome_none, Bool.false_eq_true, if_false]
      rw [hSh, Option.bind_some]
      simp only [un2]
      rw [hSl, Option.bind_some]
      simp only [un2, Option.isNone_none, if_true]
      rw [hRS, Option.bind_some, equal_refl, Option.bind_some, if_pos rfl, hRK, Option.bind_some, Ints_refl]
      exact ⟨true, rfl, rfl⟩
end
end Go.Pw
