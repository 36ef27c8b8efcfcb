/-
  The program's distances, and the chapter's example, in plain Lean.
-/
import Derived.Test.YtagooehmocpcjaaDoorExH
set_option maxHeartbeats 4000000
set_option linter.unusedSimpArgs false
set_option linter.unusedVariables false
namespace Go.Pw
theorem goals_ok {n : Nat} {x : System} (h : WS n x) : Ok (transys_goals_p x) fun l => ∃ S : List Nat, l = ints S ∧ S.Nodup ∧ (∀ i ∈ S, i < n) ∧ ∀ i, i ∈ S ↔ gsrc x i := by
  have hn := h.n1
  unfold transys_goals_p
  refine Ok.bind (Ok.forS (fun i l => ∃ S : List Nat, l = ints S ∧ S.Nodup ∧ (∀ j ∈ S, j < i) ∧ ∀ j, j ∈ S ↔ j < i ∧ x.Goals[j]? = some true) ?_ ?_ ?_)
  · exact ⟨[], rfl, List.Pairwise.nil, by simp, by simp⟩
  · rintro i l hi ⟨S, rfl, h1, h2, h3⟩
    obtain ⟨g, hg⟩ := get_len hi
    have hgl := h.g
    rw [idx_nat, hg]
    simp only [Option.bind_some]
    cases g with
    | true =>
      have hSl := nodup_short' h1 h2
      simp only [if_true, app_ok (show ((ints S).length + [(i : Int)].length) * 8 ≤ 140737488355328 by simp [ints]; omega), Option.bind_some]
      refine Ok.ret ⟨S ++ [i], by simp [ints, ofNat_cast], ?_, ?_, fun j => ?_⟩
      · exact List.nodup_append.2 ⟨h1, by simp, fun a ha b hb e => by simp only [List.mem_singleton] at hb; have := h2 a ha; omega⟩
      · intro j hj
        rcases List.mem_append.1 hj with hj | hj
        · have := h2 j hj; omega
        · simp at hj; omega
      · rw [List.mem_append, h3, List.mem_singleton]
        constructor
        · rintro (⟨a, b⟩ | rfl)
          · exact ⟨by omega, b⟩
          · exact ⟨by omega, hg⟩
        · rintro ⟨a, b⟩
          by_cases e : j = i
          · exact .inr e
          · exact .inl ⟨by omega, b⟩
    | false =>
      simp only [Bool.false_eq_true, if_false, Option.bind_some]
      refine Ok.ret ⟨S, rfl, h1, fun j hj => by have := h2 j hj; omega, fun j => ?_⟩
      rw [h3]
      constructor
      · rintro ⟨a, b⟩; exact ⟨by omega, b⟩
      · rintro ⟨a, b⟩
        refine ⟨?_, b⟩
        by_cases e : j = i
        · subst e; rw [hg] at b; cases b
        · omega
  · rintro l ⟨S, rfl, h1, h2, h3⟩
    refine Ok.ret ⟨S, rfl, h1, fun i hi => by have := h2 i hi; have := h.g; omega, fun i => ?_⟩
    rw [h3]
    unfold gsrc
    constructor
    · exact fun h => h.2
    · exact fun h => ⟨(List.getElem?_eq_some_iff.1 h).1, h⟩
theorem SP.congr {A : Arcs} {s t : Nat → Prop} {n : Nat} {l : List Int} (h : SP A s n l) (e : ∀ i, s i ↔ t i) : SP A t n l := by
  have : s = t := funext fun i => propext (e i)
  subst this; exact h
theorem dist_ok {x : System} (hv : VSys x) : Ok (transys_Distances_p x) fun r => r.2 = none ∧ SP (ArcOf x true) (gsrc x) x.States.toNat r.1 := by
  unfold transys_Distances_p
  simp only [tV, valB_iff.2 hv, Option.bind_some, Bool.not_true, Bool.false_eq_true, if_false]
  obtain ⟨l, hl, S, rfl, h1, h2, h3⟩ := goals_ok hv.ws
  refine Ok.step hl (Ok.bind ((shortest_ok hv.ws true h1 h2).mono fun r hr => Ok.ret ⟨rfl, hr.congr h3⟩))

theorem aokT {x : System} (hv : VSys x) : AOK (ArcOf x true) (gsrc x) x.States.toNat := hv.ws.aok true fun i hi => by
  have := (List.getElem?_eq_some_iff.1 hi).1
  have := hv.g
  omega
theorem aokF {x : System} (hv : VSys x) : AOK (ArcOf x false) (fun i => (i : Int) = x.Init) x.States.toNat := hv.ws.aok false fun i hi => by
  have := hv.i0; have := hv.i1
  omega
end Go.Pw
