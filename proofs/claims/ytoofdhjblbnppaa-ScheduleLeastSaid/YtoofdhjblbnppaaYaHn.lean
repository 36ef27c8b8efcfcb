/-
  P57.3: ScheduleLeast.
-/
import Derived.Test.YtoofdhjblbnppaaYaHl
set_option linter.unusedVariables false
set_option linter.unusedSimpArgs false
namespace Go.Pw
section
variable {t : Temporal} {L S : List Launch}
/-- The least solution is a plan that is fine. -/
structure Moved (t : Temporal) (S : List Launch) (U : Nat → Int) : Prop where
  acc : Acc t (LU S U)
  fine : Fine t (LU S U)
  le : ∀ i, i < S.length → 0 ≤ U i ∧ U i ≤ (lau S i).At
theorem Shifted.moved {U : Nat → Int} (h : Shifted t S U) (hA : Acc t S) (hF : Fine t S) (hs : SL S) : Moved t S U := by
  have hle := fun i hi => h.le _ (Sol.self hA hF hs) i hi
  have hr := h.sol.resch hA hs fun i hi => by have := hle i hi; have := (hA.ok _ (lau_mem hi)).a1; omega
  exact ⟨hr.acc hA, hr.fine hA hF, fun i hi => ⟨h.sol.st i hi, hle i hi⟩⟩
theorem Moved.span {U : Nat → Int} (h : Moved t S U) : mkS t (LU S U) ≤ mkS t S := by
  refine mkS_le mkS_ge.1 fun l hl => ?_
  obtain ⟨i, hi, rfl⟩ := List.mem_iff_getElem.1 hl
  have hi' : i < S.length := by rwa [LU_len] at hi
  have e : (LU S U)[i] = lau (LU S U) i := by simp [lau, hi]
  have h1 := (mkS_ge (t := t) (L := S)).2 _ (lau_mem hi')
  have h2 := (h.le i hi').2
  rw [e, LU_lau hi']
  unfold endT at *
  have : jb t ⟨U i, (lau S i).Job⟩ = jb t (lau S i) := jb_job rfl
  rw [this]
  show U i + _ ≤ _
  omega
/-- Shifting again changes nothing. -/
theorem again_eq {U U2 : Nat → Int} {S2 : List Launch} (h : Shifted t S U) (hA : Acc t S) (hF : Fine t S) (hs : SL S) (hp : (LU S U).Perm S2) (hs2 : SL S2) (h2 : Shifted t S2 U2) : LU S2 U2 = S2 := by
  have hm := h.moved hA hF hs
  have hA2 := hm.acc.perm hp
  have hF2 := hm.fine.perm hp
  have hle2 := fun i hi => h2.le _ (Sol.self hA2 hF2 hs2) i hi
  obtain ⟨f, g, k1, k2⟩ := perm_ix hp
  rw [LU_len] at k1
  have ef : ∀ i, i < S.length → lau S2 (f i) = ⟨U i, (lau S i).Job⟩ := fun i hi => by rw [lau_perm (k1 i hi).2.2, LU_lau hi]
  have ej : ∀ i, i < S.length → jb t (lau S2 (f i)) = jb t (lau S i) := fun i hi => by rw [ef i hi]; exact jb_job rfl
  have inj : ∀ i k, i < S.length → k < S.length → i ≠ k → f i ≠ f k := fun i k hi hk hne e => hne (by rw [← (k1 i hi).2.1, ← (k1 k hk).2.1, e])
  have et : ∀ x : Nat × Bool, x.1 < S.length → tmH t S2 (f x.1, x.2) = tmU t S U x := fun x hx => by
    unfold tmH tmU endT jH
    simp only
    rw [ej _ hx, ef _ hx]
  have eu : ∀ x : Nat × Bool, x.1 < S.length → tmU t S2 U2 (f x.1, x.2) = tmU t S (fun i => U2 (f i)) x := fun x hx => by
    unfold tmU jH
    simp only
    rw [ej _ hx]
  have hV : Sol t S fun i => U2 (f i) := by
    refine ⟨fun i hi => h2.sol.st _ (k1 i hi).1, fun x y hx hy hne hi hlt => ?_, fun i x hi hx hne hme hle => ?_, fun i x hi hx hne hme hle => ?_, fun i k hik hk hj hmi => ?_⟩
    · have a1 := h.sol.od x y hx hy hne hi hlt
      have a2 := h2.sol.od (f x.1, x.2) (f y.1, y.2) (k1 _ hx).1 (k1 _ hy).1 (inj _ _ hx hy hne) (by unfold intX jH at hi ⊢; simp only; rw [ej _ hx, ej _ hy]; exact hi) (by rw [et x hx, et y hy]; omega)
      rw [eu x hx, eu y hy] at a2
      exact a2
    · have a1 := h.sol.o1 i x hi hx hne hme hle
      have a2 := h2.sol.o1 (f i) (f x.1, x.2) (k1 _ hi).1 (k1 _ hx).1 (inj _ _ hx hi hne) (by unfold wrX jH at hme ⊢; simp only; rw [ej _ hx, ej _ hi]; exact hme) (by rw [et x hx, ef i hi]; exact a1)
      rw [eu x hx] at a2
      exact a2
    · have a1 := h.sol.o2 i x hi hx hne hme hle
      have a2 := h2.sol.o2 (f i) (f x.1, x.2) (k1 _ hi).1 (k1 _ hx).1 (inj _ _ hx hi hne) (by unfold wrX jH at hme ⊢; simp only; rw [ej _ hx, ej _ hi]; exact hme) (by rw [et x hx]; unfold endT; rw [ej i hi, ef i hi]; exact a1)
      rw [eu x hx, ej i hi] at a2
      exact a2
    · have hi : i < S.length := by omega
      have a1 := h.sol.rp i k hik hk hj hmi
      have hd := dur_pos hA hi
      have hlt : f i < f k := by
        rcases Nat.lt_trichotomy (f i) (f k) with c | c | c
        · exact c
        · exact absurd c (inj i k hi hk (by omega))
        · have := hs2 _ _ c (k1 i hi).1
          rw [ef i hi, ef k hk] at this
          simp only at this
          omega
      have a2 := h2.sol.chain hA2 _ (f i) (f k) (Nat.le_refl _) hlt (k1 k hk).1 (by rw [ef i hi, ef k hk]; exact hj)
      rw [ej i hi] at a2
      exact a2
  have key : ∀ j, j < S2.length → U2 j = (lau S2 j).At := fun j hj => by
    obtain ⟨b1, b2⟩ := k2 j hj
    rw [LU_len] at b1
    have h3 : U (g j) ≤ U2 (f (g j)) := h.le _ hV (g j) b1
    rw [b2] at h3
    have h4 := ef (g j) b1
    rw [b2] at h4
    have h5 : U2 j ≤ (lau S2 j).At := hle2 j hj
    rw [h4] at h5 ⊢
    have h6 : U2 j ≤ U (g j) := h5
    show U2 j = U (g j)
    omega
  apply List.ext_getElem (LU_len _ _)
  intro j h3 h4
  have e1 : (LU S2 U2)[j] = lau (LU S2 U2) j := by simp [lau, h3]
  have e2 : S2[j] = lau S2 j := by simp [lau, h4]
  rw [e1, e2, LU_lau h4, key j h4]
theorem Least_ok (t : Temporal) (L : List Launch) : law57_ScheduleLeast_p t L = some true := by
  unfold law57_ScheduleLeast_p
  refine Ok.eq ?_
  rw [awake_ok, Option.bind_some]
  simp only [Bool.not_true, Bool.false_eq_true, if_false]
  obtain ⟨b, hb, hfew⟩ := few_ok t L
  rw [hb]
  cases b with
  | false => exact ⟨true, rfl, rfl⟩
  | true =>
    obtain ⟨ht, hl⟩ := hfew rfl
    show Ok ((temporal_Validate_p t L).bind _) _
    obtain ⟨⟨m, e⟩, h1, h2, h3⟩ := Validate_ok ht L
    rw [h1, Option.bind_some]
    cases e with
    | some z => exact ⟨true, rfl, rfl⟩
    | none =>
      obtain ⟨hA, hF⟩ := h2.1 rfl
      have hm : m = mkS t L := h3 rfl
      subst hm
      have hp := (srtL_perm L).symm
      have hAS := hA.perm hp
      have hFS := hF.perm hp
      have hSL := SL.of (srtL_le L)
      have hlen : (srtL L).length = L.length := (srtL_perm L).length_eq
      obtain ⟨f, d, _, _, _, _, _, _, hLe, hSh⟩ := Shift_ok ht hA hF (by omega)
      have hsh := hLe.shifted hAS hFS
      have hmv := hsh.moved hAS hFS hSL
      have hsp := hmv.span
      have hmk := mkS_perm (t := t) hp
      generalize hU : (fun i => -(f (2 * i + 1) 0)) = U at hSh hsh hmv hsp
      simp only [un2, Option.isSome_none, Bool.false_eq_true, if_false]
      rw [hSh, Option.bind_some]
      simp only [un2, Option.isSome_none, Bool.false_eq_true, if_false]
      have hlen2 : (LU (srtL L) U).length = L.length := by rw [LU_len, hlen]
      rw [Validate_none ht hmv.acc hmv.fine, Option.bind_some]
      obtain ⟨f2, d2, _, _, _, _, _, _, hLe2, hSh2⟩ := Shift_ok ht hmv.acc hmv.fine (by omega)
      have hp2 := (srtL_perm (LU (srtL L) U)).symm
      have hsh2 := hLe2.shifted (hmv.acc.perm hp2) (hmv.fine.perm hp2)
      have hag := again_eq hsh hAS hFS hSL hp2 (SL.of (srtL_le _)) hsh2
      rw [hag] at hSh2
      simp only [un2]
      rw [hSh2, Option.bind_some]
      simp only [un2, Option.isSome_none, Bool.false_eq_true, if_false]
      rw [if_neg (by simp; omega), Sorted_ok (by omega), Option.bind_some, equal_refl, Option.bind_some]
      simp only [Bool.not_true, Bool.false_eq_true, if_false]
      rw [show (!decide (((LU (srtL L) U).length : Int) = (L.length : Int))) = false by simp [hlen2]]
      simp only [Option.bind_some, Bool.false_eq_true, if_false]
      rw [Sorted_ok (by omega), Option.bind_some]
      have hB : ∀ j x, (srtL L)[j]? = some x → x = lau (srtL L) j ∧ j < (srtL L).length := fun j x hx => by
        have hj := (List.getElem?_eq_some_iff.1 hx).1
        rw [lau_get hj] at hx
        exact ⟨(Zu hx).symm, hj⟩
      rw [ctl_list (p := fun _ => true) (r := false)]
      · exact ⟨true, by simp, rfl⟩
      · intro j x hx
        obtain ⟨rfl, hj⟩ := hB j x hx
        have hle := hmv.le j hj
        rw [idx_nat, hx, Option.bind_some, idx_nat, lau_get (by omega), LU_lau hj]
        simp only [Option.bind_some, decide_true, Bool.not_true, Bool.false_eq_true, if_false]
        rw [if_neg (by simp; omega)]
        simp only [Option.bind_some]
        rw [if_neg (by simp; omega)]
        rfl
end
end Go.Pw
