/-
  The example of the chapter, in plain Lean; the program's merge is the reference's.
-/
import Derived.Test.YtagooehmocpcjaaDoorExMe
import Derived.Test.YtagooehmocpcjaaDoorExW
import Derived.KernelRfl
set_option maxHeartbeats 4000000
set_option maxRecDepth 100000
set_option linter.unusedSimpArgs false
set_option linter.unusedVariables false
namespace Go.Pw
theorem bisim_eq {x : System} (hv : VSys x) (hs : x.States ≤ 100) (hl : x.Costs.length ≤ 100) : ∃ c, shrink_Bisimulation_p x = some (c, none) ∧ ref45_Bisimulation_p x = some c ∧ IsBis (TSof x hv) c := by
  obtain ⟨⟨c, e⟩, h1, h2, h3⟩ := bisim_ok hv hs hl
  obtain ⟨d, h4, h5⟩ := refBis_ok hv hv.s2
  simp only at h2 h3
  subst h2
  have := h3.uniq h5
  subst this
  exact ⟨c, h1, h4, h3⟩
theorem merge_eq {x : System} (hv : VSys x) (hs : x.States ≤ 100) (hl : x.Costs.length ≤ 100) (most : Int) : ∃ c, shrink_Merge_p x most = some (c, none) ∧ ref45_Merge_p x most = some c := by
  obtain ⟨⟨c, e⟩, h1, h2, c0, h3, h4⟩ := merge_ok hv hs hl most
  obtain ⟨d, h5, d0, h6, h7⟩ := refMerge_ok hv most
  simp only at h2 h4
  subst h2
  have := h3.uniq h6
  subst this
  exact ⟨c, h1, by rw [h5, h7, ← h4]⟩
def exS : System := ⟨4, 0, [1, 1], [(⟨0, 0, 1⟩ : Edge), (⟨0, 0, 2⟩ : Edge), (⟨1, 1, 3⟩ : Edge), (⟨2, 1, 3⟩ : Edge)], [false, false, false, true]⟩
theorem exV : VSys exS := by
  have h : transys_Valid_p exS = some true := by kernel_rfl
  rw [tV] at h
  exact valB_iff.1 (Option.some.inj h)
theorem exRefBis : ref45_Bisimulation_p exS = some [0, 1, 1, 2] := by
  unfold ref45_Bisimulation_p
  have hmk : mk 8 (0 : Int) exS.States = some [0, 0, 0, 0] := by kernel_rfl
  rw [hmk]
  simp only [Option.bind_some]
  rw [whileC_of (k := 9) (c := Ctl.ret [0, 1, 1, 2]) (by kernel_rfl)]
  rfl
theorem exRefMerge : ref45_Merge_p exS 2 = some [0, 0, 0, 1] := by
  unfold ref45_Merge_p
  rw [exRefBis]
  have hm : ref45_Many_o_p [0, 1, 1, 2] exS.States = some 3 := by kernel_rfl
  simp only [Option.bind_some, hm]
  rw [whileC_of (k := 9) (c := Ctl.brk (2, [0, 0, 0, 1])) (by kernel_rfl)]
  rfl
theorem awake_ok : law45_awake_p = some true := by
  obtain ⟨c, h1, h2, _⟩ := bisim_eq exV (by decide) (by decide)
  obtain ⟨d, h3, h4⟩ := merge_eq exV (by decide) (by decide) 2
  rw [exRefBis] at h2
  rw [exRefMerge] at h4
  cases h2
  cases h4
  unfold law45_awake_p
  rw [show (⟨4, 0, [1, 1], [(⟨0, 0, 1⟩ : Edge), (⟨0, 0, 2⟩ : Edge), (⟨1, 1, 3⟩ : Edge), (⟨2, 1, 3⟩ : Edge)], [false, false, false, true]⟩ : System) = exS from rfl, h1, h3]
  simp [un2, Ints_o]
theorem is_t (e : Option Int) (k : Int) : base_Is_t e k = (e.isSome && decide (base_Num_t e = k)) := by
  have h := base_Is_tot e k
  unfold base_Is_p at h
  exact (Option.some.inj h).symm
theorem num_t (k : Int) : base_Num_t (some k) = k := by
  have h := base_Num_tot (some k)
  unfold base_Num_p at h
  simpa using (Option.some.inj h).symm
theorem is_some (k j : Int) : base_Is_t (some k) j = decide (k = j) := by rw [is_t, num_t]; simp
theorem vnot {x : System} (h : ¬ VSys x) : valB x = false := by
  cases hb : valB x with
  | false => rfl
  | true => exact absurd (valB_iff.1 hb) h
end Go.Pw
