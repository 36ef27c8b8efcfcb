/-
  SimulateRuns returns true for every input, and the input reads as it did: no conditions.
-/
import Derived.Test.YthbgcahoknmmmaaGreatL7
import Derived.Test.YthbgcahoknmmmaaGreatRz6
import Derived.Test.YthbgcahoknmmmaaGreatRzSM
import Derived.Test.YthbgcahoknmmmaaGreatRows
namespace Go.Pw
open Go.Proofs Go.Proofs.YthbgcahoknmmmaaGreat Go.ChangeShapes Go.WideShapes Go.ChangeAt Go.RowKit
theorem own0 : ownKnob Tryz.prog.godebug = none := by kernel_rfl
theorem laid0 : laidOutB Tryz.prog = true := by kernel_rfl
theorem opens75 : Opens Tryz.prog 75 encFact (fun b => ((Lit.int .i64 b.Var).wf = true) ∧ ((Lit.int .i64 b.Val).wf = true)) :=
  Opens.struct (fun t => ⟨t.1, t.2⟩) Tryz.underlying75 (by kernel_rfl) (fun _ => rfl)
    (FOpens.cons rfl (by kernel_rfl) (Opens.int Tryz.underlying3) rfl (FOpens.one rfl (by kernel_rfl) (Opens.int Tryz.underlying3)))
theorem opens59 : Opens Tryz.prog 59 encJob (fun b => (b.Name.size ≤ maxLen) ∧ ((Lit.int .i64 b.Duration).wf = true) ∧ (b.Start.length ≤ maxLen ∧ ∀ y23 ∈ b.Start, ((Lit.int .i64 y23.Var).wf = true) ∧ ((Lit.int .i64 y23.Val).wf = true)) ∧ (b.Over.length ≤ maxLen ∧ ∀ y23 ∈ b.Over, ((Lit.int .i64 y23.Var).wf = true) ∧ ((Lit.int .i64 y23.Val).wf = true)) ∧ (b.End.length ≤ maxLen ∧ ∀ y23 ∈ b.End, ((Lit.int .i64 y23.Var).wf = true) ∧ ((Lit.int .i64 y23.Val).wf = true)) ∧ (b.AtStart.length ≤ maxLen ∧ ∀ y23 ∈ b.AtStart, ((Lit.int .i64 y23.Var).wf = true) ∧ ((Lit.int .i64 y23.Val).wf = true)) ∧ (b.AtEnd.length ≤ maxLen ∧ ∀ y23 ∈ b.AtEnd, ((Lit.int .i64 y23.Var).wf = true) ∧ ((Lit.int .i64 y23.Val).wf = true))) :=
  Opens.struct (fun t => ⟨t.1, t.2.1, t.2.2.1, t.2.2.2.1, t.2.2.2.2.1, t.2.2.2.2.2.1, t.2.2.2.2.2.2⟩) Tryz.underlying59 (by kernel_rfl) (fun _ => rfl)
    (FOpens.cons rfl (by kernel_rfl) (Opens.str Tryz.underlying9) rfl (FOpens.cons rfl (by kernel_rfl) (Opens.int Tryz.underlying3) rfl (FOpens.cons rfl (by kernel_rfl) (Opens.slice Tryz.underlying23 (by kernel_rfl) opens75) rfl (FOpens.cons rfl (by kernel_rfl) (Opens.slice Tryz.underlying23 (by kernel_rfl) opens75) rfl (FOpens.cons rfl (by kernel_rfl) (Opens.slice Tryz.underlying23 (by kernel_rfl) opens75) rfl (FOpens.cons rfl (by kernel_rfl) (Opens.slice Tryz.underlying23 (by kernel_rfl) opens75) rfl (FOpens.one rfl (by kernel_rfl) (Opens.slice Tryz.underlying23 (by kernel_rfl) opens75))))))))
theorem opens26 : Opens Tryz.prog 26 encTemporal (fun b => (b.Vars.length ≤ maxLen ∧ ∀ y22 ∈ b.Vars, (Lit.int .i64 y22).wf = true) ∧ (b.Init.length ≤ maxLen ∧ ∀ y22 ∈ b.Init, (Lit.int .i64 y22).wf = true) ∧ (b.Goal.length ≤ maxLen ∧ ∀ y23 ∈ b.Goal, ((Lit.int .i64 y23.Var).wf = true) ∧ ((Lit.int .i64 y23.Val).wf = true)) ∧ (b.Jobs.length ≤ maxLen ∧ ∀ y24 ∈ b.Jobs, (y24.Name.size ≤ maxLen) ∧ ((Lit.int .i64 y24.Duration).wf = true) ∧ (y24.Start.length ≤ maxLen ∧ ∀ y23 ∈ y24.Start, ((Lit.int .i64 y23.Var).wf = true) ∧ ((Lit.int .i64 y23.Val).wf = true)) ∧ (y24.Over.length ≤ maxLen ∧ ∀ y23 ∈ y24.Over, ((Lit.int .i64 y23.Var).wf = true) ∧ ((Lit.int .i64 y23.Val).wf = true)) ∧ (y24.End.length ≤ maxLen ∧ ∀ y23 ∈ y24.End, ((Lit.int .i64 y23.Var).wf = true) ∧ ((Lit.int .i64 y23.Val).wf = true)) ∧ (y24.AtStart.length ≤ maxLen ∧ ∀ y23 ∈ y24.AtStart, ((Lit.int .i64 y23.Var).wf = true) ∧ ((Lit.int .i64 y23.Val).wf = true)) ∧ (y24.AtEnd.length ≤ maxLen ∧ ∀ y23 ∈ y24.AtEnd, ((Lit.int .i64 y23.Var).wf = true) ∧ ((Lit.int .i64 y23.Val).wf = true)))) :=
  Opens.struct (fun t => ⟨t.1, t.2.1, t.2.2.1, t.2.2.2⟩) Tryz.underlying26 (by kernel_rfl) (fun _ => rfl)
    (FOpens.cons rfl (by kernel_rfl) (Opens.slice Tryz.underlying22 (by kernel_rfl) (Opens.int Tryz.underlying3)) rfl (FOpens.cons rfl (by kernel_rfl) (Opens.slice Tryz.underlying22 (by kernel_rfl) (Opens.int Tryz.underlying3)) rfl (FOpens.cons rfl (by kernel_rfl) (Opens.slice Tryz.underlying23 (by kernel_rfl) opens75) rfl (FOpens.one rfl (by kernel_rfl) (Opens.slice Tryz.underlying24 (by kernel_rfl) opens59)))))
theorem opens64 : Opens Tryz.prog 64 encLaunch (fun b => ((Lit.int .i64 b.At).wf = true) ∧ ((Lit.int .i64 b.Job).wf = true)) :=
  Opens.struct (fun t => ⟨t.1, t.2⟩) Tryz.underlying64 (by kernel_rfl) (fun _ => rfl)
    (FOpens.cons rfl (by kernel_rfl) (Opens.int Tryz.underlying3) rfl (FOpens.one rfl (by kernel_rfl) (Opens.int Tryz.underlying3)))
set_option maxRecDepth 100000 in
theorem lifted0 (os : Os) (started : os.Started) (H : Type) (enc : TypeId × Value → H) :
    ReturnsInHanded {} Tryz.checked os 3 .any (Rows.simulateRunsSpec.pre6 enc Tryz.prog Tryz.f3 Rows.simulateRunsRow.domain false) (Rows.simulateRunsSpec.post enc Tryz.prog Tryz.f3 false true false false) := by
  refine returnsInHanded_of_change (C := Tryz.checked) own0 started (by kernel_rfl) Tryz.func3
    (ChangeSpec.witness6 (enc := enc) (C := Tryz.checked) false ⟨#[], #[Value.agg #[Value.slice none 0 0, Value.slice none 0 0, Value.slice none 0 0, Value.slice none 0 0], Value.slice none 0 0], []⟩ 8 (by kernel_rfl) (by kernel_rfl) (by kernel_rfl) (by kernel_rfl)) ?_
  intro W base args ds gs before hval0 hW hcnd _
  have hval : ∀ (j : Nat) t v, Tryz.f3.params[j]? = some t → args[j]? = some v → Value.okWide Tryz.prog W .any base t v := hval0
  have hW' := hW
  obtain ⟨p, q, hA0, hV, rfl, hfz, hnd⟩ := hW
  have hA : DataW.TrodAll enc Tryz.prog W 0 (fun _ => true) true Tryz.f3.params.toList args.toList ds p := hA0
  rw [Tryz.params3] at hA hval
  obtain ⟨v0, v1, d0, d1, p0, p1, rfl, rfl, rfl, h0, h1⟩ := trodAll_two hA
  obtain ⟨rfl, rfl⟩ := trodVars_none hV
  simp only [List.append_nil] at hW'
  have hlt : ∀ x ∈ p0 ++ p1, x.block < W.heap.size := fun x hx => by simpa using hW'.lt x hx
  obtain ⟨x0, b0, w0⟩ := arg_agg opens26 (.inl ⟨_, Tryz.underlying26⟩) rfl (hval 0 26 v0 rfl rfl) h0
  have e0 := encTemporal_val.1 b0
  obtain ⟨u0_0, u0_1, u0_2, u0_3, rfl, r0_0, r0_1, r0_2, r0_3⟩ := e0
  obtain ⟨x1, a1, l1, w1⟩ := arg_slice (E := encLaunch) Tryz.underlying27 (by kernel_rfl) opens64 (hval 1 27 v1 rfl rfl) h1
  refine (law58_SimulateRuns_sim ((simulateRuns_ok (Nat.le_refl 1000) x0 x1)) (St.start W) r0_0 r0_1 r0_2 r0_3 a1).mono ?_
  rintro _ W' ⟨_, rfl, s', hle, hS', rfl⟩
  have hb := below_of_St hS' hle
  exact ⟨_, rfl, ⟨_, _, _, [], _, [], hW', trodAll_mk1 (shut_bool Tryz.underlying4 true),
    trodAll_mk2 (Below.trod laid0 (by kernel_rfl) (of_decide_eq_true (by kernel_rfl)) h0 hb fun x hx => hlt x (by simp [hx])) (Below.trod laid0 (by kernel_rfl) (of_decide_eq_true (by kernel_rfl)) h1 hb fun x hx => hlt x (by simp [hx])), rfl, hb.frame _, fun h => by cases h⟩⟩
theorem said0 : Rows.SimulateRunsSaid :=
  OpenClaim.holds_of_wide 3 Tryz.f3 rfl rfl rfl rfl rfl rfl rfl ⟨rfl, rfl, rfl, rfl, rfl⟩ rfl rfl rfl rfl rfl (by kernel_rfl) Tryz.func3 (by kernel_rfl)
    (of_decide_eq_true (by kernel_rfl)) (by unfold Func.isWrapper; first | (rw [if_pos (by decide +kernel)]; kernel_rfl) | (rw [if_neg (by decide +kernel)]; exact ⟨rfl, rfl⟩))
    (fun os started H enc _ => lifted0 os started H enc)
end Go.Pw
namespace Go.Proofs.YthbgcahoknmmmaaGreat
theorem simulateRuns_holds : Rows.SimulateRunsSaid := Go.Pw.said0
end Go.Proofs.YthbgcahoknmmmaaGreat
