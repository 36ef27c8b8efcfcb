/-
  P57.2: ScheduleSolutions, the law.
-/
import Derived.Test.YtoofdhjblbnppaaYaHp
set_option linter.unusedVariables false
set_option linter.unusedSimpArgs false
namespace Go.Pw
section
variable {t : Temporal} {L S : List Launch}
def dlyU (S : List Launch) (D : List Int) (j : Nat) (i : Nat) : Int := (lau S i).At + if i < j then (D[i]?).getD 0 else 0
theorem LU_set {U V : Nat → Int} {j : Nat} (hj : j < S.length) (h : ∀ i, i ≠ j → U i = V i) : (LU S U).set j ⟨V j, (lau S j).Job⟩ = LU S V := by
  apply List.ext_getElem?
  intro i
  by_cases e : i = j
  · subst e
    rw [List.getElem?_set_self (by rw [LU_len]; exact hj), lau_get (by rw [LU_len]; exact hj), LU_lau hj]
  · rw [List.getElem?_set_ne (Ne.symm e)]
    by_cases c : i < S.length
    · rw [lau_get (by rw [LU_len]; exact c), lau_get (by rw [LU_len]; exact c), LU_lau c, LU_lau c, h i e]
    · rw [List.getElem?_eq_none (by rw [LU_len]; omega), List.getElem?_eq_none (by rw [LU_len]; omega)]
theorem times_set {U V : Nat → Int} {j : Nat} (hj : j < S.length) (h : ∀ i, i ≠ j → U i = V i) : ((timesOf t S U).set (2 * j + 1) (V j)).set (2 * j + 2) (V j + (jb t (lau S j)).Duration) = timesOf t S V := by
  apply List.ext_getElem?
  intro p
  have l1 := timesOf_len t S U
  by_cases e2 : p = 2 * j + 2
  · subst e2
    rw [List.getElem?_set_self (by simp; omega), timesOf_get (by omega), tmN_end]
  · rw [List.getElem?_set_ne (Ne.symm e2)]
    by_cases e1 : p = 2 * j + 1
    · subst e1
      rw [List.getElem?_set_self (by omega), timesOf_get (by omega), tmN_start]
    · rw [List.getElem?_set_ne (Ne.symm e1)]
      by_cases c : p < 2 * S.length + 1
      · rw [timesOf_get c, timesOf_get c]
        congr 1
        unfold tmN
        by_cases c0 : p = 0
        · rw [if_pos c0, if_pos c0]
        · rw [if_neg c0, if_neg c0]
          by_cases c1 : p % 2 = 1
          · rw [if_pos c1, if_pos c1, h _ (by omega)]
          · rw [if_neg c1, if_neg c1, h _ (by omega)]
      · rw [List.getElem?_eq_none (by rw [timesOf_len]; omega), List.getElem?_eq_none (by rw [timesOf_len]; omega)]
theorem LU_self : LU S (fun i => (lau S i).At) = S := by
  apply List.ext_getElem?
  intro i
  by_cases c : i < S.length
  · rw [lau_get (by rw [LU_len]; exact c), LU_lau c, lau_get c]
  · rw [List.getElem?_eq_none (by rw [LU_len]; omega), List.getElem?_eq_none (by omega)]
theorem delay_loop (hA : Acc t S) (hl : S.length ≤ 63) {D : List Int} (hD : ∀ x ∈ D, -128 ≤ x ∧ x ≤ 127) :
    forS (fun i101 => un2 fun (l108 : (List Int)) (l109 : (List Launch)) => (if decide ((i101 : Int) < (D.length : Int)) then ((idx l109 (i101 : Int)).bind fun x106 =>
      (idx D (i101 : Int)).bind fun x107 =>
      (setI l109 (i101 : Int) ({ x106 with At := IntKind.i64.wrap (x106.At + (IntKind.i64.wrap x107)) } : Launch)).bind fun l110 =>
      (idx l108 (IntKind.i64.wrap ((IntKind.i64.wrap (2 * (i101 : Int))) + 1))).bind fun x108 =>
      (setI l108 (IntKind.i64.wrap ((IntKind.i64.wrap (2 * (i101 : Int))) + 1)) (IntKind.i64.wrap (x108 + (IntKind.i64.wrap x107)))).bind fun l111 =>
      (idx l111 (IntKind.i64.wrap ((IntKind.i64.wrap (2 * (i101 : Int))) + 2))).bind fun x109 =>
      (setI l111 (IntKind.i64.wrap ((IntKind.i64.wrap (2 * (i101 : Int))) + 2)) (IntKind.i64.wrap (x109 + (IntKind.i64.wrap x107)))).bind fun l112 =>
      some (l112, l110))
      else (some (l108, l109))).bind (un2 fun (l113 : (List Int)) (l114 : (List Launch)) => some (l113, l114))) (S.length) 0 (timesOf t S (fun i => (lau S i).At), S) = some (timesOf t S (dlyU S D S.length), LU S (dlyU S D S.length)) := by
  have h00 : dlyU S D 0 = fun i => (lau S i).At := by funext i; simp [dlyU]
  refine Ok.eq (Ok.forS (fun j q => q = (timesOf t S (dlyU S D j), LU S (dlyU S D j))) (by rw [h00, LU_self]) ?_ fun q hq => hq)
  rintro j q hj rfl
  have hok := hA.ok _ (lau_mem hj)
  have hd := (hA.chk.job _ (jb_mem hok)).dur
  have := hok.a0; have := hok.a1
  have hu : dlyU S D j j = (lau S j).At := by simp [dlyU]
  simp only [un2]
  by_cases c : j < D.length
  · have hx := hD _ (List.getElem_mem c)
    have hv : dlyU S D (j + 1) j = (lau S j).At + D[j] := by unfold dlyU; rw [if_pos (by omega), List.getElem?_eq_getElem c]; rfl
    have hne : ∀ i, i ≠ j → dlyU S D j i = dlyU S D (j + 1) i := fun i hi => by
      unfold dlyU
      by_cases k : i < j
      · rw [if_pos k, if_pos (by omega)]
      · rw [if_neg k, if_neg (by omega)]
    have e1 : IntKind.i64.wrap (IntKind.i64.wrap (2 * (j : Int)) + 1) = ((2 * j + 1 : Nat) : Int) := by rw [wrap_id (n := 2 * (j : Int)) (by omega) (by omega), wrap_id (by omega) (by omega)]; omega
    have e2 : IntKind.i64.wrap (IntKind.i64.wrap (2 * (j : Int)) + 2) = ((2 * j + 2 : Nat) : Int) := by rw [wrap_id (n := 2 * (j : Int)) (by omega) (by omega), wrap_id (by omega) (by omega)]; omega
    rw [if_pos (by simpa using c), idx_nat, lau_get (by rw [LU_len]; exact hj), LU_lau hj, Option.bind_some, idx_nat, List.getElem?_eq_getElem c, Option.bind_some, hu, wrap_id (n := D[j]) (by omega) (by omega), wrap_id (n := (lau S j).At + D[j]) (by omega) (by omega)]
    have l1 := timesOf_len t S (dlyU S D j)
    rw [setI_nat (by rw [LU_len]; exact hj), Option.bind_some, e1, e2, idx_nat, timesOf_get (by omega), tmN_start, Option.bind_some, hu, wrap_id (n := (lau S j).At + D[j]) (by omega) (by omega), setI_nat (by omega), Option.bind_some, idx_nat, List.getElem?_set_ne (by omega), timesOf_get (by omega), tmN_end, hu, Option.bind_some,
      wrap_id (by omega) (by omega), setI_nat (by simp; omega), Option.bind_some]
    refine ⟨_, rfl, ?_⟩
    rw [← times_set hj hne, ← LU_set hj hne, hv]
    rw [show (lau S j).At + (jb t (lau S j)).Duration + D[j] = (lau S j).At + D[j] + (jb t (lau S j)).Duration by omega]
  · rw [if_neg (by simpa using c)]
    have e : dlyU S D (j + 1) = dlyU S D j := by
      funext i
      unfold dlyU
      by_cases k : i < j
      · rw [if_pos k, if_pos (by omega)]
      · rw [if_neg k]
        by_cases k2 : i = j
        · subst k2; rw [if_pos (by omega), List.getElem?_eq_none (by omega)]; rfl
        · rw [if_neg (by omega)]
    rw [e]
    exact ⟨_, rfl, rfl⟩
theorem Solutions_ok (t : Temporal) (L : List Launch) (D : List Int) (hD : ∀ x ∈ D, -128 ≤ x ∧ x ≤ 127) : law57_ScheduleSolutions_p t L D = some true := by
  unfold law57_ScheduleSolutions_p
  refine Ok.eq ?_
  rw [awake_ok, Option.bind_some]
  simp only [Bool.not_true, Bool.false_eq_true, if_false]
  obtain ⟨b, hb, hfew⟩ := few_ok t L
  rw [hb]
  cases b with
  | false => exact ⟨true, rfl, rfl⟩
  | true =>
    obtain ⟨ht, hl⟩ := hfew rfl
    show Ok ((temporal_Validate_p t L).bind _) _
    obtain ⟨⟨m, e⟩, h1, h2, h3⟩ := Validate_ok ht L
    rw [h1, Option.bind_some]
    simp only [un2]
    refine Ok.ite (fun _ => ⟨true, rfl, rfl⟩) fun hc => ?_
    cases e with
    | some z => simp at hc
    | none =>
      have hm : m = mkS t L := h3 rfl
      subst hm
      obtain ⟨hA, hF⟩ := h2.1 rfl
      have hn : mkS t L ≤ 300 := by
        simp only [Option.isSome_none, Bool.false_or, decide_eq_false_iff_not] at hc
        omega
      have hp := (srtL_perm L).symm
      have hAS := hA.perm hp
      have hFS := hF.perm hp
      have hSL := SL.of (srtL_le L)
      have hlen : (srtL L).length = L.length := (srtL_perm L).length_eq
      have hmS := mkS_perm (t := t) hp
      obtain ⟨d, hN, hnet⟩ := lawnet_ok ht hA hF (by omega)
      rw [hnet, Option.bind_some]
      simp only [un3, optC, Bool.not_true, Bool.false_eq_true, if_false]
      rw [Sorted_ok (by omega), Option.bind_some]
      have hloop := delay_loop hAS (by omega) hD
      rw [hloop, Option.bind_some]
      have hend : ∀ i, i < (srtL L).length → (lau (srtL L) i).At ≤ 300 ∧ 0 ≤ (lau (srtL L) i).At := fun i hi => by
        have h1 := hAS.ok _ (lau_mem hi)
        have h2 := endT_gt hAS.chk h1
        have h3 := (mkS_ge (t := t) (L := srtL L)).2 _ (lau_mem hi)
        have := h1.a0
        omega
      have hDg : ∀ i : Nat, -128 ≤ (D[i]?).getD 0 ∧ (D[i]?).getD 0 ≤ 127 := fun i => by
        by_cases c : i < D.length
        · rw [List.getElem?_eq_getElem c]; exact hD _ (List.getElem_mem c)
        · rw [List.getElem?_eq_none (by omega)]; simp
      have hUb : ∀ i, i < (srtL L).length → -128 ≤ dlyU (srtL L) D (srtL L).length i ∧ dlyU (srtL L) D (srtL L).length i ≤ 427 := fun i hi => by
        have a1 := hend i hi
        have a2 := hDg i
        unfold dlyU
        rw [if_pos hi]
        omega
      generalize dlyU (srtL L) D (srtL L).length = U at hUb ⊢
      obtain ⟨r, h4, h5⟩ := Holds_tot (n := 2 * (srtL L).length + 1) (T := tmN t (srtL L) U) (by omega) (by omega) hN (timesOf_len t (srtL L) _) (fun i hi => timesOf_get hi) (fun i hi => by have := tmN_rng hAS (by omega) (by omega) hUb hi; omega)
      simp only [un2]
      rw [h4, Option.bind_some]
      cases r with
      | false => exact ⟨true, rfl, rfl⟩
      | true =>
        have hsat := h5 rfl
        have hsol := hsat.sol rfl hAS
        have eU : (fun i => tmN t (srtL L) U (2 * i + 1)) = U := by funext i; exact tmN_start i
        rw [eU] at hsol
        have hr := hsol.resch hAS hSL fun i hi => by have := hUb i hi; omega
        have hA' := hr.acc hAS
        have hF' := hr.fine hAS hFS
        simp only [Bool.not_true, Bool.false_eq_true, if_false]
        rw [Validate_none ht hA' hF', Option.bind_some]
        simp only [un2, Option.isSome_none, Bool.false_eq_true, if_false]
        have hm' : mkS t (LU (srtL L) U) ≤ 500 := mkS_le (by omega) fun l hl => by
          obtain ⟨i, hi, rfl⟩ := List.mem_iff_getElem.1 hl
          have hi' : i < (srtL L).length := by rwa [LU_len] at hi
          have e : (LU (srtL L) U)[i] = lau (LU (srtL L) U) i := by simp [lau, hi]
          have h6 := endT_gt hA'.chk (hA'.ok _ (lau_mem hi))
          rw [e]
          have h7 : (lau (LU (srtL L) U) i).At = U i := by rw [LU_lau hi']
          have := hUb i hi'
          omega
        obtain ⟨o1, s1, g1, g2, g3, g4⟩ := States_ok hA (by omega)
        obtain ⟨o2, s2, k1, k2, k3, k4⟩ := States_ok hA' (by omega)
        have hfin : s1 = s2 := final_eq hA hF hp hr g4 k4
        subst hfin
        have z1 := (mkS_ge (t := t) (L := L)).1
        have z2 := (mkS_ge (t := t) (L := LU (srtL L) U)).1
        rw [g1, Option.bind_some]
        simp only [un2]
        rw [k1, Option.bind_some]
        simp only [un2, Option.isNone_none, if_true]
        rw [wrap_id (n := mkS t L + 1) (by omega) (by omega), wrap_id (n := mkS t (LU (srtL L) U) + 1) (by omega) (by omega), if_pos (by simpa using g2), if_pos (by simpa using k2), g3, Option.bind_some, k3, Option.bind_some, Ints_refl]
        exact ⟨true, rfl, rfl⟩
end
end Go.Pw
