/-
  TransysWhole returns true for every input, and the input reads as it did: no conditions.
-/
import Derived.Test.YtdhfofhginfdnaaL7
import Derived.Test.YtdhfofhginfdnaaWh5
import Derived.Test.YtdhfofhginfdnaaWhKW
import Derived.Test.YtdhfofhginfdnaaRows
namespace Go.Pw
open Go.Proofs Go.Proofs.Ytdhfofhginfdnaa Go.ChangeShapes Go.WideShapes Go.ChangeAt Go.RowKit
theorem own0 : ownKnob Try.prog.godebug = none := by kernel_rfl
theorem laid0 : laidOutB Try.prog = true := by kernel_rfl
theorem opens82 : Opens Try.prog 82 encFact (fun b => ((Lit.int .i64 b.Var).wf = true) ∧ ((Lit.int .i64 b.Val).wf = true)) :=
  Opens.struct (fun t => ⟨t.1, t.2⟩) Try.underlying82 (by kernel_rfl) (fun _ => rfl)
    (FOpens.cons rfl (by kernel_rfl) (Opens.int Try.underlying3) rfl (FOpens.one rfl (by kernel_rfl) (Opens.int Try.underlying3)))
theorem opens93 : Opens Try.prog 93 encEffect (fun b => (b.When.length ≤ maxLen ∧ ∀ y52 ∈ b.When, ((Lit.int .i64 y52.Var).wf = true) ∧ ((Lit.int .i64 y52.Val).wf = true)) ∧ ((Lit.int .i64 b.Var).wf = true) ∧ ((Lit.int .i64 b.Val).wf = true)) :=
  Opens.struct (fun t => ⟨t.1, t.2.1, t.2.2⟩) Try.underlying93 (by kernel_rfl) (fun _ => rfl)
    (FOpens.cons rfl (by kernel_rfl) (Opens.slice Try.underlying52 (by kernel_rfl) opens82) rfl (FOpens.cons rfl (by kernel_rfl) (Opens.int Try.underlying3) rfl (FOpens.one rfl (by kernel_rfl) (Opens.int Try.underlying3))))
theorem opens79 : Opens Try.prog 79 encOp (fun b => (b.Name.size ≤ maxLen) ∧ ((Lit.int .i64 b.Cost).wf = true) ∧ (b.Pre.length ≤ maxLen ∧ ∀ y52 ∈ b.Pre, ((Lit.int .i64 y52.Var).wf = true) ∧ ((Lit.int .i64 y52.Val).wf = true)) ∧ (b.Effs.length ≤ maxLen ∧ ∀ y77 ∈ b.Effs, (y77.When.length ≤ maxLen ∧ ∀ y52 ∈ y77.When, ((Lit.int .i64 y52.Var).wf = true) ∧ ((Lit.int .i64 y52.Val).wf = true)) ∧ ((Lit.int .i64 y77.Var).wf = true) ∧ ((Lit.int .i64 y77.Val).wf = true))) :=
  Opens.struct (fun t => ⟨t.1, t.2.1, t.2.2.1, t.2.2.2⟩) Try.underlying79 (by kernel_rfl) (fun _ => rfl)
    (FOpens.cons rfl (by kernel_rfl) (Opens.str Try.underlying9) rfl (FOpens.cons rfl (by kernel_rfl) (Opens.int Try.underlying3) rfl (FOpens.cons rfl (by kernel_rfl) (Opens.slice Try.underlying52 (by kernel_rfl) opens82) rfl (FOpens.one rfl (by kernel_rfl) (Opens.slice Try.underlying77 (by kernel_rfl) opens93)))))
theorem opens55 : Opens Try.prog 55 encTask (fun b => (b.Vars.length ≤ maxLen ∧ ∀ y22 ∈ b.Vars, (Lit.int .i64 y22).wf = true) ∧ (b.Init.length ≤ maxLen ∧ ∀ y22 ∈ b.Init, (Lit.int .i64 y22).wf = true) ∧ (b.Goal.length ≤ maxLen ∧ ∀ y52 ∈ b.Goal, ((Lit.int .i64 y52.Var).wf = true) ∧ ((Lit.int .i64 y52.Val).wf = true)) ∧ (b.Ops.length ≤ maxLen ∧ ∀ y53 ∈ b.Ops, (y53.Name.size ≤ maxLen) ∧ ((Lit.int .i64 y53.Cost).wf = true) ∧ (y53.Pre.length ≤ maxLen ∧ ∀ y52 ∈ y53.Pre, ((Lit.int .i64 y52.Var).wf = true) ∧ ((Lit.int .i64 y52.Val).wf = true)) ∧ (y53.Effs.length ≤ maxLen ∧ ∀ y77 ∈ y53.Effs, (y77.When.length ≤ maxLen ∧ ∀ y52 ∈ y77.When, ((Lit.int .i64 y52.Var).wf = true) ∧ ((Lit.int .i64 y52.Val).wf = true)) ∧ ((Lit.int .i64 y77.Var).wf = true) ∧ ((Lit.int .i64 y77.Val).wf = true)))) :=
  Opens.struct (fun t => ⟨t.1, t.2.1, t.2.2.1, t.2.2.2⟩) Try.underlying55 (by kernel_rfl) (fun _ => rfl)
    (FOpens.cons rfl (by kernel_rfl) (Opens.slice Try.underlying22 (by kernel_rfl) (Opens.int Try.underlying3)) rfl (FOpens.cons rfl (by kernel_rfl) (Opens.slice Try.underlying22 (by kernel_rfl) (Opens.int Try.underlying3)) rfl (FOpens.cons rfl (by kernel_rfl) (Opens.slice Try.underlying52 (by kernel_rfl) opens82) rfl (FOpens.one rfl (by kernel_rfl) (Opens.slice Try.underlying53 (by kernel_rfl) opens79)))))
set_option maxRecDepth 100000 in
theorem lifted0 (os : Os) (started : os.Started) (H : Type) (enc : TypeId × Value → H) :
    ReturnsInHanded {} Try.checked os 9 .any (Rows.transysWholeSpec.pre6 enc Try.prog Try.f9 Rows.transysWholeRow.domain false) (Rows.transysWholeSpec.post enc Try.prog Try.f9 false true false false) := by
  refine returnsInHanded_of_change (C := Try.checked) own0 started (by kernel_rfl) Try.func9
    (ChangeSpec.witness6 (enc := enc) (C := Try.checked) false ⟨#[], #[Value.agg #[Value.slice none 0 0, Value.slice none 0 0, Value.slice none 0 0, Value.slice none 0 0]], []⟩ 8 (by kernel_rfl) (by kernel_rfl) (by kernel_rfl) (by kernel_rfl)) ?_
  intro W base args ds gs before hval0 hW hcnd _
  have hval : ∀ (j : Nat) t v, Try.f9.params[j]? = some t → args[j]? = some v → Value.okWide Try.prog W .any base t v := hval0
  have hW' := hW
  obtain ⟨p, q, hA0, hV, rfl, hfz, hnd⟩ := hW
  have hA : DataW.TrodAll enc Try.prog W 0 (fun _ => true) true Try.f9.params.toList args.toList ds p := hA0
  rw [Try.params9] at hA hval
  obtain ⟨v0, d0, rfl, rfl, h0⟩ := trodAll_one hA
  obtain ⟨rfl, rfl⟩ := trodVars_none hV
  simp only [List.append_nil] at hW'
  have hlt : ∀ x ∈ p, x.block < W.heap.size := fun x hx => by simpa using hW'.lt x hx
  obtain ⟨x0, b0, w0⟩ := arg_agg opens55 (.inl ⟨_, Try.underlying55⟩) rfl (hval 0 55 v0 rfl rfl) h0
  have e0 := encTask_val.1 b0
  obtain ⟨u0_0, u0_1, u0_2, u0_3, rfl, r0_0, r0_1, r0_2, r0_3⟩ := e0
  refine (law44_TransysWhole_sim ((law_ok x0 fun o ho => (w0.2.2.2.2 o ho).1)) (St.start W) r0_0 r0_1 r0_2 r0_3).mono ?_
  rintro _ W' ⟨_, rfl, s', hle, hS', rfl⟩
  have hb := below_of_St hS' hle
  exact ⟨_, rfl, ⟨_, _, _, [], _, [], hW', trodAll_mk1 (shut_bool Try.underlying4 true),
    trodAll_mk1 (Below.trod laid0 (by kernel_rfl) (of_decide_eq_true (by kernel_rfl)) h0 hb fun x hx => hlt x (by simp [hx])), rfl, hb.frame _, fun h => by cases h⟩⟩
theorem said0 : Rows.TransysWholeSaid :=
  OpenClaim.holds_of_wide 9 Try.f9 rfl rfl rfl rfl rfl rfl rfl ⟨rfl, rfl, rfl, rfl, rfl⟩ rfl rfl rfl rfl rfl (by kernel_rfl) Try.func9 (by kernel_rfl)
    (of_decide_eq_true (by kernel_rfl)) (by unfold Func.isWrapper; first | (rw [if_pos (by decide +kernel)]; kernel_rfl) | (rw [if_neg (by decide +kernel)]; exact ⟨rfl, rfl⟩))
    (fun os started H enc _ => lifted0 os started H enc)
end Go.Pw
namespace Go.Proofs.Ytdhfofhginfdnaa
theorem transysWhole_holds : Rows.TransysWholeSaid := Go.Pw.said0
end Go.Proofs.Ytdhfofhginfdnaa
