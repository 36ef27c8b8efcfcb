/-
  SimulateOrder returns true for every input, and the input reads as it did: no conditions.
-/
import Derived.Test.YthbgcahoknmmmaaL7
import Derived.Test.YthbgcahoknmmmaaRa5
import Derived.Test.YthbgcahoknmmmaaRaSK
import Derived.Test.YthbgcahoknmmmaaRows
namespace Go.Pw
open Go.Proofs Go.Proofs.Ythbgcahoknmmmaa Go.ChangeShapes Go.WideShapes Go.ChangeAt Go.RowKit
theorem own0 : ownKnob Try.prog.godebug = none := by kernel_rfl
theorem laid0 : laidOutB Try.prog = true := by kernel_rfl
theorem opens79 : Opens Try.prog 79 encFact (fun b => ((Lit.int .i64 b.Var).wf = true) ∧ ((Lit.int .i64 b.Val).wf = true)) :=
  Opens.struct (fun t => ⟨t.1, t.2⟩) Try.underlying79 (by kernel_rfl) (fun _ => rfl)
    (FOpens.cons rfl (by kernel_rfl) (Opens.int Try.underlying3) rfl (FOpens.one rfl (by kernel_rfl) (Opens.int Try.underlying3)))
theorem opens52 : Opens Try.prog 52 encJob (fun b => (b.Name.size ≤ maxLen) ∧ ((Lit.int .i64 b.Duration).wf = true) ∧ (b.Start.length ≤ maxLen ∧ ∀ y23 ∈ b.Start, ((Lit.int .i64 y23.Var).wf = true) ∧ ((Lit.int .i64 y23.Val).wf = true)) ∧ (b.Over.length ≤ maxLen ∧ ∀ y23 ∈ b.Over, ((Lit.int .i64 y23.Var).wf = true) ∧ ((Lit.int .i64 y23.Val).wf = true)) ∧ (b.End.length ≤ maxLen ∧ ∀ y23 ∈ b.End, ((Lit.int .i64 y23.Var).wf = true) ∧ ((Lit.int .i64 y23.Val).wf = true)) ∧ (b.AtStart.length ≤ maxLen ∧ ∀ y23 ∈ b.AtStart, ((Lit.int .i64 y23.Var).wf = true) ∧ ((Lit.int .i64 y23.Val).wf = true)) ∧ (b.AtEnd.length ≤ maxLen ∧ ∀ y23 ∈ b.AtEnd, ((Lit.int .i64 y23.Var).wf = true) ∧ ((Lit.int .i64 y23.Val).wf = true))) :=
  Opens.struct (fun t => ⟨t.1, t.2.1, t.2.2.1, t.2.2.2.1, t.2.2.2.2.1, t.2.2.2.2.2.1, t.2.2.2.2.2.2⟩) Try.underlying52 (by kernel_rfl) (fun _ => rfl)
    (FOpens.cons rfl (by kernel_rfl) (Opens.str Try.underlying9) rfl (FOpens.cons rfl (by kernel_rfl) (Opens.int Try.underlying3) rfl (FOpens.cons rfl (by kernel_rfl) (Opens.slice Try.underlying23 (by kernel_rfl) opens79) rfl (FOpens.cons rfl (by kernel_rfl) (Opens.slice Try.underlying23 (by kernel_rfl) opens79) rfl (FOpens.cons rfl (by kernel_rfl) (Opens.slice Try.underlying23 (by kernel_rfl) opens79) rfl (FOpens.cons rfl (by kernel_rfl) (Opens.slice Try.underlying23 (by kernel_rfl) opens79) rfl (FOpens.one rfl (by kernel_rfl) (Opens.slice Try.underlying23 (by kernel_rfl) opens79))))))))
theorem opens26 : Opens Try.prog 26 encTemporal (fun b => (b.Vars.length ≤ maxLen ∧ ∀ y22 ∈ b.Vars, (Lit.int .i64 y22).wf = true) ∧ (b.Init.length ≤ maxLen ∧ ∀ y22 ∈ b.Init, (Lit.int .i64 y22).wf = true) ∧ (b.Goal.length ≤ maxLen ∧ ∀ y23 ∈ b.Goal, ((Lit.int .i64 y23.Var).wf = true) ∧ ((Lit.int .i64 y23.Val).wf = true)) ∧ (b.Jobs.length ≤ maxLen ∧ ∀ y24 ∈ b.Jobs, (y24.Name.size ≤ maxLen) ∧ ((Lit.int .i64 y24.Duration).wf = true) ∧ (y24.Start.length ≤ maxLen ∧ ∀ y23 ∈ y24.Start, ((Lit.int .i64 y23.Var).wf = true) ∧ ((Lit.int .i64 y23.Val).wf = true)) ∧ (y24.Over.length ≤ maxLen ∧ ∀ y23 ∈ y24.Over, ((Lit.int .i64 y23.Var).wf = true) ∧ ((Lit.int .i64 y23.Val).wf = true)) ∧ (y24.End.length ≤ maxLen ∧ ∀ y23 ∈ y24.End, ((Lit.int .i64 y23.Var).wf = true) ∧ ((Lit.int .i64 y23.Val).wf = true)) ∧ (y24.AtStart.length ≤ maxLen ∧ ∀ y23 ∈ y24.AtStart, ((Lit.int .i64 y23.Var).wf = true) ∧ ((Lit.int .i64 y23.Val).wf = true)) ∧ (y24.AtEnd.length ≤ maxLen ∧ ∀ y23 ∈ y24.AtEnd, ((Lit.int .i64 y23.Var).wf = true) ∧ ((Lit.int .i64 y23.Val).wf = true)))) :=
  Opens.struct (fun t => ⟨t.1, t.2.1, t.2.2.1, t.2.2.2⟩) Try.underlying26 (by kernel_rfl) (fun _ => rfl)
    (FOpens.cons rfl (by kernel_rfl) (Opens.slice Try.underlying22 (by kernel_rfl) (Opens.int Try.underlying3)) rfl (FOpens.cons rfl (by kernel_rfl) (Opens.slice Try.underlying22 (by kernel_rfl) (Opens.int Try.underlying3)) rfl (FOpens.cons rfl (by kernel_rfl) (Opens.slice Try.underlying23 (by kernel_rfl) opens79) rfl (FOpens.one rfl (by kernel_rfl) (Opens.slice Try.underlying24 (by kernel_rfl) opens52)))))
theorem opens45 : Opens Try.prog 45 encLaunch (fun b => ((Lit.int .i64 b.At).wf = true) ∧ ((Lit.int .i64 b.Job).wf = true)) :=
  Opens.struct (fun t => ⟨t.1, t.2⟩) Try.underlying45 (by kernel_rfl) (fun _ => rfl)
    (FOpens.cons rfl (by kernel_rfl) (Opens.int Try.underlying3) rfl (FOpens.one rfl (by kernel_rfl) (Opens.int Try.underlying3)))
set_option maxRecDepth 100000 in
theorem lifted0 (os : Os) (started : os.Started) (H : Type) (enc : TypeId × Value → H) :
    ReturnsInHanded {} Try.checked os 4 .any (Rows.simulateOrderSpec.pre6 enc Try.prog Try.f4 Rows.simulateOrderRow.domain false) (Rows.simulateOrderSpec.post enc Try.prog Try.f4 false true false false) := by
  refine returnsInHanded_of_change (C := Try.checked) own0 started (by kernel_rfl) Try.func4
    (ChangeSpec.witness6 (enc := enc) (C := Try.checked) false ⟨#[], #[Value.agg #[Value.slice none 0 0, Value.slice none 0 0, Value.slice none 0 0, Value.slice none 0 0], Value.slice none 0 0], []⟩ 8 (by kernel_rfl) (by kernel_rfl) (by kernel_rfl) (by kernel_rfl)) ?_
  intro W base args ds gs before hval0 hW hcnd _
  have hval : ∀ (j : Nat) t v, Try.f4.params[j]? = some t → args[j]? = some v → Value.okWide Try.prog W .any base t v := hval0
  have hW' := hW
  obtain ⟨p, q, hA0, hV, rfl, hfz, hnd⟩ := hW
  have hA : DataW.TrodAll enc Try.prog W 0 (fun _ => true) true Try.f4.params.toList args.toList ds p := hA0
  rw [Try.params4] at hA hval
  obtain ⟨v0, v1, d0, d1, p0, p1, rfl, rfl, rfl, h0, h1⟩ := trodAll_two hA
  obtain ⟨rfl, rfl⟩ := trodVars_none hV
  simp only [List.append_nil] at hW'
  have hlt : ∀ x ∈ p0 ++ p1, x.block < W.heap.size := fun x hx => by simpa using hW'.lt x hx
  obtain ⟨x0, b0, w0⟩ := arg_agg opens26 (.inl ⟨_, Try.underlying26⟩) rfl (hval 0 26 v0 rfl rfl) h0
  have e0 := encTemporal_val.1 b0
  obtain ⟨u0_0, u0_1, u0_2, u0_3, rfl, r0_0, r0_1, r0_2, r0_3⟩ := e0
  obtain ⟨x1, a1, l1, w1⟩ := arg_slice (E := encLaunch) Try.underlying27 (by kernel_rfl) opens45 (hval 1 27 v1 rfl rfl) h1
  refine (law58_SimulateOrder_sim ((simulateOrder_ok (Nat.le_refl 1000) x0 x1)) (St.start W) r0_0 r0_1 r0_2 r0_3 a1).mono ?_
  rintro _ W' ⟨_, rfl, s', hle, hS', rfl⟩
  have hb := below_of_St hS' hle
  exact ⟨_, rfl, ⟨_, _, _, [], _, [], hW', trodAll_mk1 (shut_bool Try.underlying4 true),
    trodAll_mk2 (Below.trod laid0 (by kernel_rfl) (of_decide_eq_true (by kernel_rfl)) h0 hb fun x hx => hlt x (by simp [hx])) (Below.trod laid0 (by kernel_rfl) (of_decide_eq_true (by kernel_rfl)) h1 hb fun x hx => hlt x (by simp [hx])), rfl, hb.frame _, fun h => by cases h⟩⟩
theorem said0 : Rows.SimulateOrderSaid :=
  OpenClaim.holds_of_wide 4 Try.f4 rfl rfl rfl rfl rfl rfl rfl ⟨rfl, rfl, rfl, rfl, rfl⟩ rfl rfl rfl rfl rfl (by kernel_rfl) Try.func4 (by kernel_rfl)
    (of_decide_eq_true (by kernel_rfl)) (by unfold Func.isWrapper; first | (rw [if_pos (by decide +kernel)]; kernel_rfl) | (rw [if_neg (by decide +kernel)]; exact ⟨rfl, rfl⟩))
    (fun os started H enc _ => lifted0 os started H enc)
end Go.Pw
namespace Go.Proofs.Ythbgcahoknmmmaa
theorem simulateOrder_holds : Rows.SimulateOrderSaid := Go.Pw.said0
end Go.Proofs.Ythbgcahoknmmmaa
