/-
  The statement on forms, in plain Lean: it holds of every system.
-/
import Derived.Test.YtdhfofhginfdnaaFoG
import Derived.Test.YtdhfofhginfdnaaFoW
set_option maxHeartbeats 4000000
set_option linter.unusedSimpArgs false
set_option linter.unusedVariables false
namespace Go.Pw
abbrev noS : System := ⟨0, 0, [], [], []⟩
theorem valB_f {x : System} (h : ¬ VSys x) : valB x = false := by
  cases e : valB x with
  | false => rfl
  | true => exact absurd (valB_iff.1 e) h
theorem prod_bad {a b : System} (h : ¬ (VSys a ∧ VSys b)) : transys_Product_p a b = some (some 2, noS) := by
  unfold transys_Product_p
  simp only [tV, Option.bind_some]
  by_cases h1 : VSys a
  · simp only [valB_iff.2 h1, Bool.not_true, Bool.false_eq_true, if_false]
    by_cases h2 : VSys b
    · exact absurd ⟨h1, h2⟩ h
    · simp [valB_f h2]
  · simp [valB_f h1]
theorem num_some (k : Int) : base_Num_t (some k) = k := by
  have := base_Num_tot (some k)
  unfold base_Num_p at this
  simpa using this.symm
theorem is_some (k : Int) : base_Is_t (some k) k = true := by
  have := base_Is_tot (some k) k
  unfold base_Is_p at this
  have := Option.some.inj this
  rw [← this]
  simp [num_some]
theorem law_ok (x : System) : law44_TransysForms_p x = some true := by
  unfold law44_TransysForms_p
  obtain ⟨b, hb, _⟩ := large_ok x
  simp only [awake_ok, hb, rV, tV, Option.bind_some, Bool.not_true, Bool.false_eq_true, if_false]
  cases b with
  | true => simp
  | false =>
    simp only [Bool.false_eq_true, if_false, Option.bind_some]
    by_cases hv : VSys x
    · simp [valB_iff.2 hv]
    · have v := valB_f hv
      have hex : law44_example_t = exS := by
        have := law44_example_tot
        unfold law44_example_p at this
        exact (Option.some.inj this).symm
      have p1 := prod_bad (a := x) (b := exS) (fun h => hv h.1)
      have p2 := prod_bad (a := exS) (b := x) (fun h => hv h.2)
      have d : transys_Distances_p x = some ([], some 2) := by unfold transys_Distances_p; simp [tV, v]
      have c : transys_Costs_p x = some ([], some 2) := by unfold transys_Costs_p; simp [tV, v]
      have t : transys_Trim_p x = some ([], some 2, noS) := by unfold transys_Trim_p; simp [tV, v]
      have s1 : transys_Simulates_p x x [0] = some false := by unfold transys_Simulates_p; simp [tV, v]
      have s2 : transys_Simulates_p exS x [0, 0] = some false := by unfold transys_Simulates_p; simp [tV, v, valB_iff.2 exS_v]
      simp only [v, hex, p1, p2, d, c, t, s1, s2, Option.bind_some, un2, un3, Bool.false_eq_true, if_false, beq_self_eq_true, Bool.not_true, Bool.not_false, if_true, forC, List.length_cons, List.length_nil]
      simp [idx, is_some, forC, ctl]
end Go.Pw
