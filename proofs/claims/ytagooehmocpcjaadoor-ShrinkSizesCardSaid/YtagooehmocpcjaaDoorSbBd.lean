/-
  What the statements call 'bounded', in plain Lean.
-/
import Derived.Test.YtagooehmocpcjaaDoorSbDs
import Derived.Test.YtagooehmocpcjaaDoorSbA
set_option maxHeartbeats 4000000
set_option maxRecDepth 100000
set_option linter.unusedSimpArgs false
set_option linter.unusedVariables false
namespace Go.Pw
theorem bounded_ok {x : System} (hv : VSys x) {c : List Int} {K : Nat} (hK : KOK c x.States.toNat K) : law45_bounded_o_p x c = some true := by
  unfold law45_bounded_o_p
  obtain ⟨⟨e, y⟩, h1, h2, h3⟩ := quot_ok hv hK
  simp only at h2 h3
  subst h2
  have hy := h3.v hv hK
  have hc := hK.clsOf
  obtain ⟨⟨d, e⟩, hd, h4, h5⟩ := dist_ok hv
  obtain ⟨⟨f, e'⟩, hf, h6, h7⟩ := dist_ok hy
  simp only at h4 h5 h6 h7
  subst h4 h6
  rw [h1]
  simp only [Option.bind_some, un2, Option.isSome_none, Bool.false_eq_true, if_false, hd, hf, sim_ok hv hK h3, Bool.not_true]
  rw [ctl_all (p := fun _ => true) (r := false) ?_]
  · rw [if_pos (by simp)]
  · intro j hj
    rw [hK.len] at hj
    obtain ⟨a, b, ha, hb, hle⟩ := dist_le hv hK h3 h5 h7 hj
    have n1 : ¬ a < b := by omega
    simp only [idx_nat, (hc.get hj).1, ha, hb, Option.bind_some, n1, decide_false, Bool.false_eq_true, if_false, if_true]
end Go.Pw
