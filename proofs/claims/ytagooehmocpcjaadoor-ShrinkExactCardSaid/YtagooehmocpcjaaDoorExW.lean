/-
  The reference accepts the same systems; the guard of sizes.
-/
import Derived.Test.YtagooehmocpcjaaDoorExVE
set_option maxHeartbeats 4000000
set_option linter.unusedSimpArgs false
set_option linter.unusedVariables false
namespace Go.Pw
theorem before_t (a b : Edge) : ref44_Before_t a b = true ↔ EdLt a b := by
  have h := ref44_Before_tot a b
  unfold ref44_Before_p at h
  unfold EdLt
  by_cases h1 : a.From = b.From
  · by_cases h2 : a.Label = b.Label
    · simp [h1, h2] at h; rw [← h]; simp [h1, h2]
    · simp [h1, h2] at h; rw [← h]; simp [h1, h2]
  · simp [h1] at h; rw [← h]; simp [h1]
open Classical in
theorem rV (x : System) : ref44_Valid_p x = some (valB x) := by
  unfold ref44_Valid_p
  rw [head_eq]
  by_cases h : x.States < 1 ∨ 4096 < x.States ∨ x.Init < 0 ∨ x.States ≤ x.Init ∨ ¬ (x.Goals.length : Int) = x.States ∨ 4096 < (x.Costs.length : Int) ∨ 65536 < (x.Edges.length : Int)
  · rw [if_pos (by simpa using h)]
    have : ¬ VSys x := fun hv => by have := hv.s1; have := hv.s2; have := hv.i0; have := hv.i1; have := hv.g; have := hv.c; have := hv.e; omega
    unfold valB; simp [this]
  · rw [if_neg (by simpa using h), valB_eq x h, ctl_all (fun j hj => costR x false j hj)]
    have hl : x.Edges.length ≤ 65536 := by omega
    rw [ctl_all (fun j hj => edgeR x j hj hl (fun a b => some (!(ref44_Before_t a b))) (fun a b => by
      have := before_t a b
      by_cases hlt : EdLt a b
      · simp [hlt, this.2 hlt]
      · have h2 : ref44_Before_t a b = false := by
          cases hb : ref44_Before_t a b with
          | false => rfl
          | true => exact absurd (this.1 hb) hlt
        simp [hlt, h2]))]
    cases (List.range x.Costs.length).all (costOK x) <;> cases (List.range x.Edges.length).all (edgeOK x) <;> rfl
/-- What the guard leaves. -/
theorem large_ok (x : System) : Ok (law45_large_p x) fun b => b = false → (VSys x → x.States ≤ 20) ∧ x.Goals.length ≤ 5000 ∧ x.Edges.length ≤ 80 ∧ x.Costs.length ≤ 20 := by
  unfold law45_large_p
  by_cases h1 : 20 < x.States
  · simp only [h1, decide_true, if_true, rV, Option.bind_some]
    by_cases hv : valB x = true
    · simp only [hv, if_true]; exact Ok.ret (by simp)
    · simp only [hv, if_false]
      have hv' : ¬ VSys x := fun h => hv (valB_iff.2 h)
      by_cases h2 : 5000 < (x.Goals.length : Int)
      · simp only [h2, decide_true, if_true]; exact Ok.ret (by simp)
      · by_cases h3 : 80 < (x.Edges.length : Int)
        · simp only [h2, h3, decide_true, decide_false, if_true, Bool.false_eq_true, if_false]; exact Ok.ret (by simp)
        · simp only [h2, h3, decide_true, decide_false, if_true, Bool.false_eq_true, if_false]
          refine Ok.ret fun h => ⟨fun h => absurd h hv', by omega, by omega, ?_⟩
          have := dec_f h
          omega
  · simp only [h1, decide_false, Bool.false_eq_true, if_false]
    by_cases h2 : 5000 < (x.Goals.length : Int)
    · simp only [h2, decide_true, if_true]; exact Ok.ret (by simp)
    · by_cases h3 : 80 < (x.Edges.length : Int)
      · simp only [h2, h3, decide_true, decide_false, if_true, Bool.false_eq_true, if_false]; exact Ok.ret (by simp)
      · simp only [h2, h3, decide_true, decide_false, if_true, Bool.false_eq_true, if_false]
        refine Ok.ret fun h => ⟨fun _ => by omega, by omega, by omega, ?_⟩
        have := dec_f h
        omega
end Go.Pw
