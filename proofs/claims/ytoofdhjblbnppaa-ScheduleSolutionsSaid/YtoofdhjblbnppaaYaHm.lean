/-
  P57.2: the network of a plan in the laws; ScheduleGiven.
-/
import Derived.Test.YtoofdhjblbnppaaYaHl
set_option linter.unusedVariables false
set_option linter.unusedSimpArgs false
namespace Go.Pw
def timesOf (t : Temporal) (S : List Launch) (U : Nat → Int) : List Int := (List.range (2 * S.length + 1)).map (tmN t S U)
theorem timesOf_len (t : Temporal) (S : List Launch) (U : Nat → Int) : (timesOf t S U).length = 2 * S.length + 1 := by simp [timesOf]
theorem timesOf_get {t : Temporal} {S : List Launch} {U : Nat → Int} {p : Nat} (h : p < 2 * S.length + 1) : (timesOf t S U)[p]? = some (tmN t S U p) := by simp [timesOf, h]
section
variable {t : Temporal} {L S : List Launch}
theorem lawnet_ok (ht : Tight t) (hA : Acc t L) (hF : Fine t L) (hl : L.length ≤ 63) : ∃ d, Net (2 * (srtL L).length + 1) (BD t (srtL L)) d ∧ law57_network_p t L = some (some ⟨d⟩, timesOf t (srtL L) (fun i => (lau (srtL L) i).At), true) := by
  have hAS := hA.perm (srtL_perm L).symm
  have hFS := hF.perm (srtL_perm L).symm
  have hlen : (srtL L).length = L.length := (srtL_perm L).length_eq
  have hsat := (Sol.self hAS hFS (SL.of (srtL_le L))).sat hAS hFS
  unfold law57_network_p
  rw [Network_ok ht hA hF hl, Option.bind_some]
  simp only [un3, Option.isSome_none, Bool.false_eq_true, if_false]
  rw [show 2 * (L.length : Int) + 1 = ((2 * (srtL L).length + 1 : Nat) : Int) by omega]
  obtain ⟨r, h1, d0, rfl, h2⟩ := New_ok (n := 2 * (srtL L).length + 1) (by omega) (by omega)
  rw [h1, Option.bind_some]
  simp only [un2, optC, Option.isSome_none, Bool.false_eq_true, if_false]
  obtain ⟨d, h3, h4⟩ := adds_ok (n := 2 * (srtL L).length + 1) (by omega) (BD_rt hAS) (by simpa using hsat) (Net.new h2) (R := Option stn_Network × List Int × Bool) (fun e => (none, [], false))
  refine ⟨d, by simpa using h3, ?_⟩
  rw [Sorted_ok hA.len]
  generalize srtL L = S at *
  unfold un2 at h4
  unfold ctl
  rw [show (forC (R := Option stn_Network × List Int × Bool) _ _ 0 d0) = _ from h4]
  simp only [Option.bind_some]
  refine Ok.eq ?_
  show Ok (ctl (forC (R := Option stn_Network × List Int × Bool) _ S.length 0 [0]) _ _) _
  refine Ok.ctl (fun j ts => ts = (List.range (2 * j + 1)).map (tmN t S fun i => (lau S i).At)) (fun _ => False) (by simp [tmN]) ?_ (fun r hr => hr.elim) fun ts hts => ⟨_, rfl, by rw [hts]; rfl⟩
  rintro j ts hj rfl
  have hok := hAS.ok _ (lau_mem hj)
  have hd := endT_gt hAS.chk hok
  have := hok.a0; have := hok.a1
  unfold endT at hd
  refine Ok.step (by rw [idx_nat]; exact lau_get hj) ?_
  rw [if_neg (by have := hok.j0; have := hok.j1; simp; omega)]
  refine Ok.step (jb_idx hok) (Ok.step (app_ok (by simp; omega)) ⟨_, rfl, ?_⟩)
  show _ = (List.range (2 * (j + 1) + 1)).map _
  rw [show 2 * (j + 1) + 1 = (2 * j + 1) + 1 + 1 by omega, range_snoc_map _ (2 * j + 1 + 1), range_snoc_map _ (2 * j + 1), wrap_id (by omega) (by omega)]
  rw [show 2 * j + 1 + 1 = 2 * j + 2 by omega, tmN_start, tmN_end, List.append_assoc]
  rfl
theorem tmN_rng (hA : Acc t S) {U : Nat → Int} {a b : Int} (ha : a ≤ 0) (hb : 0 ≤ b) (hU : ∀ i, i < S.length → a ≤ U i ∧ U i ≤ b) {p : Nat} (hp : p < 2 * S.length + 1) : a ≤ tmN t S U p ∧ tmN t S U p ≤ b + 62 := by
  unfold tmN
  by_cases c : p = 0
  · rw [if_pos c]; omega
  · rw [if_neg c]
    by_cases c2 : p % 2 = 1
    · rw [if_pos c2]
      have := hU (p / 2) (by omega); omega
    · rw [if_neg c2]
      have := hU (p / 2 - 1) (by omega)
      have := (hA.chk.job _ (jb_mem (hA.ok _ (lau_mem (L := S) (i := p / 2 - 1) (by omega))))).dur
      omega
end
end Go.Pw
