/-
  SimplifyRelevant, in plain Lean.
-/
import Derived.Test.YtkfcbmecmdpilaaSrVj
set_option maxHeartbeats 8000000
set_option linter.unusedSimpArgs false
set_option linter.unusedVariables false
namespace Go.Pw
theorem simplifyRelevant_ok {fu : Nat} {g : Ground} (hl : LenG g) (hs : SizeOf.sizeOf g ≤ fu) : law19_SimplifyRelevant_p fu g = some true := by
  unfold law19_SimplifyRelevant_p
  obtain ⟨b, hb, _⟩ := large_ok (fu := fu) hl hs
  rw [hb, awake_ok]
  simp only [Option.bind_some, Bool.not_true, ite_self]
  cases b with
  | true => simp only [if_true, Option.bind_some]
  | false =>
    simp only [Bool.false_eq_true, if_false, Option.bind_some]
    unfold simplify_Relevant_p
    rw [valid_ok hl hs, refValid_ok hl hs]
    simp only [Option.bind_some]
    by_cases hv : ValidG g
    · obtain ⟨s, e1, h1⟩ := mrelevant_ok hv hs
      obtain ⟨m, e2, h2⟩ := rrelevant_ok hv hl hs
      obtain ⟨ha, hf⟩ := h1.uniq h2
      simp only [hv, decide_true, Bool.not_true, Bool.false_eq_true, if_false, e1, e2, Option.bind_some, un3, ha, hf]
      have l1 := h2.la
      have l2 := h2.lf
      have := hl.a
      have := hl.f
      rw [bools_same (by omega), bools_same (by omega)]
      rfl
    · simp only [hv, decide_false, Bool.not_false, if_true, Option.bind_some, un3]
      with_unfolding_all rfl
/-! ### what is known of data read in -/
abbrev WfC (c : Cond) : Prop := (c.Pos.length ≤ maxLen ∧ ∀ y ∈ c.Pos, (Lit.int .i64 y).wf = true) ∧ (c.Neg.length ≤ maxLen ∧ ∀ y ∈ c.Neg, (Lit.int .i64 y).wf = true) ∧ (c.Tests.length ≤ maxLen ∧ ∀ t ∈ c.Tests, (t.Op.size ≤ maxLen) ∧ WFE t.A ∧ WFE t.B)
theorem lenC_of {c : Cond} (h : WfC c) : LenC c := ⟨h.1.1, h.2.1.1, h.2.2.1, fun t ht => (h.2.2.2 t ht).2⟩
theorem lenG_of {g : Ground} {A F I : Prop} {P : GOp → Prop} {Q : GChange → Prop} {R : GAssign → Prop} (h : (g.Atoms.length ≤ maxLen ∧ A) ∧ (g.Fluents.length ≤ maxLen ∧ F) ∧ (g.Init.length ≤ maxLen ∧ I) ∧ (g.Goal.length ≤ maxLen ∧ ∀ c ∈ g.Goal, WfC c) ∧
    (g.Ops.length ≤ maxLen ∧ ∀ o ∈ g.Ops, (o.Name.size ≤ maxLen) ∧ P o ∧ WfC o.Pre ∧ (o.Changes.length ≤ maxLen ∧ ∀ c ∈ o.Changes, WfC c.When ∧ Q c) ∧ (o.Assigns.length ≤ maxLen ∧ ∀ a ∈ o.Assigns, R a ∧ WFE a.Value))) : LenG g :=
  ⟨h.1.1, h.2.1.1, h.2.2.1.1, h.2.2.2.1.1, h.2.2.2.2.1, fun c hc => lenC_of (h.2.2.2.1.2 c hc), fun o ho =>
    let k := h.2.2.2.2.2 o ho
    ⟨k.1, lenC_of k.2.2.1, k.2.2.2.1.1, fun c hc => lenC_of (k.2.2.2.1.2 c hc).1, k.2.2.2.2.1, fun a ha => (k.2.2.2.2.2 a ha).2⟩⟩
end Go.Pw
