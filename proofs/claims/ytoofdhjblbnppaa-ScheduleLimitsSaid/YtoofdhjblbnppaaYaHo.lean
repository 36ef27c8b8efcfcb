/-
  P57.1: ScheduleLimits.
-/
import Derived.Test.YtoofdhjblbnppaaYaHl
set_option linter.unusedVariables false
set_option linter.unusedSimpArgs false
namespace Go.Pw
noncomputable def DR : Temporal := ⟨law57_delivery_t.Vars, law57_delivery_t.Init, [], law57_delivery_t.Jobs⟩
def restJ : Job := ⟨⟨#[114, 101, 115, 116]⟩, 1, [], [], [], [], []⟩
theorem DR_tight : Tight DR := ⟨delivery_tight.jobs, delivery_tight.name⟩
theorem DR_check : temporal_Check_p DR = some none := by kernel_rfl
theorem DR_chk : Chk DR := by
  obtain ⟨e, h1, h2⟩ := Check_ok DR_tight
  rw [DR_check] at h1
  cases h1
  exact h2 rfl
theorem DR_jobs : DR.Jobs.length = 3 := by kernel_rfl
theorem DR_jb0 : jb DR ⟨0, 2⟩ = restJ := by kernel_rfl
theorem DR_jb (a : Int) : jb DR ⟨a, 2⟩ = restJ := (jb_job rfl).trans DR_jb0
/-- The launches. -/
def limL (n : Nat) (c : Int) : List Launch := (List.range n).map fun i : Nat => ⟨(i : Int) * c, 2⟩
theorem limL_len (n : Nat) (c : Int) : (limL n c).length = n := by simp [limL]
theorem limL_lau {n : Nat} {c : Int} {i : Nat} (h : i < n) : lau (limL n c) i = ⟨(i : Int) * c, 2⟩ := by
  have e : (limL n c)[i]? = some ⟨(i : Int) * c, 2⟩ := by simp [limL, h]
  unfold lau
  rw [List.getElem!_eq_getElem?_getD, e]; rfl
section
variable {n : Nat} {c : Int}
theorem lim_jH {x : Nat × Bool} (h : x.1 < n) : jH DR (limL n c) x = restJ := by unfold jH; rw [limL_lau h, DR_jb]
theorem lim_wr {x : Nat × Bool} (h : x.1 < n) : wrX DR (limL n c) x = [] := by unfold wrX wrH; rw [lim_jH h]; split <;> rfl
theorem lim_rd {x : Nat × Bool} (h : x.1 < n) : rdX DR (limL n c) x = [] := by unfold rdX rdH; rw [lim_jH h]; split <;> rfl
theorem lim_int {x y : Nat × Bool} (hx : x.1 < n) (hy : y.1 < n) : intX DR (limL n c) x y = false := by
  unfold intX; rw [lim_jH hx, lim_jH hy]
  obtain ⟨i, a⟩ := x
  obtain ⟨k, b⟩ := y
  cases a <;> cases b <;> rfl
theorem step_lt (hc : 2 ≤ c) {i k : Nat} (h : i < k) : (i : Int) * c + 2 ≤ (k : Int) * c := by
  have h1 : ((i + 1 : Nat) : Int) * c ≤ (k : Int) * c := Int.mul_le_mul_of_nonneg_right (by omega) (by omega)
  have h2 : ((i + 1 : Nat) : Int) * c = (i : Int) * c + c := by rw [Int.natCast_add, Int.add_mul]; simp
  omega
theorem lim_acc (hn : n ≤ 65) (hc : 2 ≤ c) (hc2 : c ≤ 257) : Acc DR (limL n c) := by
  refine ⟨DR_check, DR_chk, by rw [limL_len]; omega, fun l hl => ?_⟩
  obtain ⟨i, hi, rfl⟩ := List.mem_map.1 hl
  rw [List.mem_range] at hi
  have h1 : (i : Int) * c ≤ 65 * 257 := by
    have a := Int.mul_le_mul_of_nonneg_right (show (i : Int) ≤ 65 by omega) (show 0 ≤ c by omega)
    omega
  have h0 : 0 ≤ (i : Int) * c := Int.mul_nonneg (by omega) (by omega)
  exact ⟨by simp, by simp [DR_jobs], h0, by simp only; omega⟩
theorem lim_fine (hn : n ≤ 65) (hc : 2 ≤ c) (hc2 : c ≤ 257) : Fine DR (limL n c) := by
  refine ⟨fun a i k hi hk hne ha hj h => ?_, fun a x y hx hy _ _ _ => ?_, fun x hx f hf => ?_, fun i hi τ _ _ f hf => ?_, fun f hf => by simp [DR] at hf⟩
  · rw [limL_len] at hi hk
    rw [limL_lau hi] at ha
    rw [limL_lau hk] at h
    unfold endT at h
    rw [DR_jb] at h
    simp only [restJ] at h ha
    rcases Nat.lt_or_gt_of_ne hne with q | q
    · have := step_lt hc q; omega
    · have := step_lt hc q; omega
  · rw [limL_len] at hx hy
    exact lim_int hx hy
  · rw [limL_len] at hx
    rw [lim_rd hx] at hf
    cases hf
  · rw [limL_len] at hi
    rw [limL_lau hi, DR_jb] at hf
    cases hf
theorem lim_srt (hc : 2 ≤ c) : srtL (limL n c) = limL n c := by
  refine srtL_uniq (.refl _) (List.pairwise_iff_getElem.2 fun i k hi hk hik => ?_)
  have := step_lt hc hik
  simp only [limL, List.getElem_map, List.getElem_range, LeL]
  omega
theorem lim_sol (U : Nat → Int) (h : Sol DR (limL n c) U) : ∀ i, i < n → 2 * (i : Int) ≤ U i
  | 0, hi => h.st 0 (by rw [limL_len]; exact hi)
  | i + 1, hi => by
    have ih := lim_sol U h i (by omega)
    have := h.rp i (i + 1) (by omega) (by rw [limL_len]; exact hi) (by rw [limL_lau hi, limL_lau (by omega)]) fun m h1 h2 => by omega
    rw [limL_lau (show i < n by omega), DR_jb] at this
    simp only [restJ] at this
    omega
theorem lim_is (hc : 2 ≤ c) : Sol DR (limL n c) fun i => 2 * (i : Int) := by
  refine ⟨fun i _ => by show (0 : Int) ≤ 2 * (i : Int); omega, fun x y hx hy _ hi => ?_, fun i x hi hx _ hm => ?_, fun i x hi hx _ hm => ?_, fun i k hik hk _ hm => ?_⟩
  · rw [limL_len] at hx hy
    rw [lim_int hx hy] at hi; cases hi
  · rw [limL_len] at hx
    rw [lim_wr hx] at hm; cases hm
  · rw [limL_len] at hx
    rw [lim_wr hx] at hm; cases hm
  · rw [limL_len] at hk
    have hk1 : k = i + 1 := by
      by_cases e : k = i + 1
      · exact e
      · exact absurd (by rw [limL_lau (show i + 1 < n by omega), limL_lau (show i < n by omega)]) (hm (i + 1) (by omega) (by omega))
    subst hk1
    rw [limL_lau (show i < n by omega), DR_jb]
    simp only [restJ]
    omega
theorem flat_one {α : Type} (f : Nat → List α) : ∀ m : Nat, (∀ i, i < m → (f i).length = 1) → ((List.range m).flatMap f).length = m
  | 0, _ => rfl
  | m + 1, h => by rw [List.range_succ, List.flatMap_append, List.length_append, flat_one f m fun i hi => h i (by omega)]; simp [h m (by omega)]
theorem flat_three {α : Type} (f : Nat → List α) : ∀ m : Nat, (∀ i, i < m → (f i).length = 3) → ((List.range m).flatMap f).length = 3 * m
  | 0, _ => rfl
  | m + 1, h => by rw [List.range_succ, List.flatMap_append, List.length_append, flat_three f m fun i hi => h i (by omega)]; simp [h m (by omega)]; omega
theorem lim_BD : (BD DR (limL n c)).length = 3 * n + (n - 1) := by
  have h1 : (durL DR (limL n c)).length = 3 * n := by
    unfold durL
    rw [limL_len]
    exact flat_three _ n fun i _ => rfl
  have h2 : ordL DR (limL n c) = [] := by
    refine List.eq_nil_iff_forall_not_mem.2 fun b hb => ?_
    obtain ⟨x, y, a1, a2, hb⟩ := mem_ordL.1 hb
    rw [limL_len] at a2
    rw [mem_ordB, lim_int (by omega) a2] at hb
    cases hb.1
  have h3 : ovrL DR (limL n c) = [] := by
    refine List.eq_nil_iff_forall_not_mem.2 fun b hb => ?_
    obtain ⟨i, x, a1, a2, a3, hb⟩ := mem_ovrL.1 hb
    rw [limL_len] at a2
    rw [mem_ovrB, lim_wr a2] at hb
    cases hb.1
  have h4 : (repL (limL n c)).length = n - 1 := by
    rw [repL_eq, limL_len]
    cases n with
    | zero => rfl
    | succ m =>
      rw [List.range_succ, List.flatMap_append, List.length_append, flat_one]
      · have : nextJ (limL (m + 1) c) m = none := nextJ_none fun j a b => by rw [limL_len] at b; omega
        simp [repB, this]
      · intro i hi
        have : nextJ (limL (m + 1) c) i = some (i + 1) := nextJ_some (by omega) (by rw [limL_len]; omega) (by rw [limL_lau (by omega), limL_lau (by omega)]) fun j a b => by omega
        simp [repB, this]
  unfold BD
  rw [h2, h3]
  simp only [List.length_append, List.length_nil, h1, h4]
  omega
end
theorem Limits_ok {many gap : Int} (hm : 0 ≤ many ∧ many < 256) (hg : 0 ≤ gap ∧ gap < 256) : law57_ScheduleLimits_p many gap = some true := by
  unfold law57_ScheduleLimits_p
  rw [awake_ok, Option.bind_some]
  simp only [Bool.not_true, Bool.false_eq_true, if_false]
  rw [wrap_id (n := many) (by omega) (by omega), wrap_id (n := gap) (by omega) (by omega), wrap_id (n := 2 + gap) (by omega) (by omega)]
  obtain ⟨n, hn⟩ : ∃ n : Nat, many.tmod 66 = (n : Int) := ⟨(many.tmod 66).toNat, by rw [Int.tmod_eq_emod_of_nonneg hm.1]; omega⟩
  have hn65 : n ≤ 65 := by rw [Int.tmod_eq_emod_of_nonneg hm.1] at hn; omega
  rw [hn]
  generalize hc : 2 + gap = c
  have hc2 : 2 ≤ c := by omega
  have hc3 : c ≤ 257 := by omega
  refine Ok.eq (Ok.must (by simp; omega) ?_)
  rw [Int.toNat_natCast]
  have hl : Ok (forS (fun i100 => fun (l100 : (List Launch)) => (app 16 l100 [(⟨IntKind.i64.wrap ((i100 : Int) * c), 2⟩ : Launch)]).bind fun l101 => some l101) n 0 []) (fun r => r = limL n c) := by
    refine Ok.forS (fun j r => r = limL j c) rfl ?_ fun s hs => hs
    rintro j s hj rfl
    refine Ok.step (app_ok (by rw [limL_len]; simp; omega)) ⟨_, rfl, ?_⟩
    have h1 : (j : Int) * c ≤ 65 * 257 := by
      have a := Int.mul_le_mul_of_nonneg_right (show (j : Int) ≤ 65 by omega) (show 0 ≤ c by omega)
      omega
    have h0 : 0 ≤ (j : Int) * c := Int.mul_nonneg (by omega) (by omega)
    rw [wrap_id (by omega) (by omega)]
    unfold limL
    rw [range_snoc_map]
  obtain ⟨r, h1, rfl⟩ := hl
  refine Ok.step h1 ?_
  have hA := lim_acc (n := n) hn65 hc2 hc3
  have hF := lim_fine (n := n) hn65 hc2 hc3
  show Ok ((schedule_Shift_p DR (limL n c)).bind _) _
  have eD : (⟨law57_delivery_t.Vars, law57_delivery_t.Init, [], law57_delivery_t.Jobs⟩ : Temporal) = DR := rfl
  by_cases hbig : 63 < n
  · have hr := read_large DR_tight hA hF (by rw [limL_len]; omega)
    have hs : schedule_Shift_p DR (limL n c) = some ([], some 5) := by
      unfold schedule_Shift_p; rw [hr]; rfl
    have hw : schedule_Network_p DR (limL n c) = some ([], 0, some 5) := by
      unfold schedule_Network_p; rw [hr]; rfl
    rw [hs, Option.bind_some]
    simp only [un2]
    rw [eD, hw, Option.bind_some]
    simp only [un3]
    rw [if_pos (by simp; omega)]
    refine ⟨_, rfl, ?_⟩
    have hI : base_Is_t (some 5) 5 = true := by unfold base_Is_t base_Num_t; rfl
    rw [hI]
    rfl
  · obtain ⟨f, d, _, _, _, _, _, _, hLe, hSh⟩ := Shift_ok DR_tight hA hF (by rw [limL_len]; omega)
    rw [lim_srt hc2] at hLe hSh
    have hsh := hLe.shifted hA hF
    have hU : ∀ i, i < n → (fun i => -(f (2 * i + 1) 0)) i = 2 * (i : Int) := fun i hi => by
      have a1 : -(f (2 * i + 1) 0) ≤ 2 * (i : Int) := hsh.le _ (lim_is hc2) i (by rw [limL_len]; exact hi)
      have a2 : 2 * (i : Int) ≤ -(f (2 * i + 1) 0) := lim_sol _ hsh.sol i hi
      show -(f (2 * i + 1) 0) = 2 * (i : Int)
      omega
    generalize (fun i => -(f (2 * i + 1) 0)) = U at hSh hU
    rw [hSh, Option.bind_some]
    simp only [un2]
    rw [eD, Network_ok DR_tight hA hF (by rw [limL_len]; omega), Option.bind_some]
    simp only [un3]
    rw [if_neg (by simp; omega), lim_srt hc2, lim_BD, LU_len, limL_len]
    rw [if_neg (by
      have e : IntKind.i64.wrap (3 * (n : Int)) = 3 * (n : Int) := wrap_id (by omega) (by omega)
      have e2 : IntKind.i64.wrap ((n : Int) - 1) = (n : Int) - 1 := wrap_id (by omega) (by omega)
      rw [e, e2, wrap_id (by omega) (by omega)]
      simp only [Option.isSome_none, Bool.false_or, decide_true, Bool.not_true, Bool.not_eq_true, Bool.not_eq_false', decide_eq_true_eq]
      omega)]
    have hXg : ∀ j, j < n → (LU (limL n c) U)[j]? = some ⟨2 * (j : Int), 2⟩ := fun j hj => by
      rw [lau_get (by rw [LU_len, limL_len]; exact hj), LU_lau (by rw [limL_len]; exact hj), limL_lau hj, hU j hj]
    have hXl : (LU (limL n c) U).length = n := by rw [LU_len, limL_len]
    generalize LU (limL n c) U = X at hXg hXl ⊢
    rw [← hXl, ctl_list (p := fun _ => true) (r := false)]
    · exact ⟨true, by simp, rfl⟩
    · intro j x hx
      have hj := (List.getElem?_eq_some_iff.1 hx).1
      rw [idx_nat, hXg j (by omega), Option.bind_some]
      rw [if_neg (by
        simp only [decide_true, Bool.not_true, Bool.or_false, Bool.not_eq_true, Bool.not_eq_false', decide_eq_true_eq]
        rw [wrap_id (by omega) (by omega)])]
      rfl
end Go.Pw
