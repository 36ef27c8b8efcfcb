/-
  TransysForms returns true for every input, and the input reads as it did: no conditions.
-/
import Derived.Test.YtdhfofhginfdnaaL7
import Derived.Test.YtdhfofhginfdnaaL7
import Derived.Test.YtdhfofhginfdnaaFo2
import Derived.Test.YtdhfofhginfdnaaFoKF
import Derived.Test.YtdhfofhginfdnaaRows
namespace Go.Pw
open Go.Proofs Go.Proofs.Ytdhfofhginfdnaa Go.ChangeShapes Go.WideShapes Go.ChangeAt Go.RowKit

theorem own0 : ownKnob Try.prog.godebug = none := by kernel_rfl
theorem laid0 : laidOutB Try.prog = true := by kernel_rfl
theorem opens66 : Opens Try.prog 66 encEdge (fun b => ((Lit.int .i64 b.From).wf = true) ∧ ((Lit.int .i64 b.Label).wf = true) ∧ ((Lit.int .i64 b.To).wf = true)) :=
  Opens.struct (fun t => ⟨t.1, t.2.1, t.2.2⟩) Try.underlying66 (by kernel_rfl) (fun _ => rfl)
    (FOpens.cons rfl (by kernel_rfl) (Opens.int Try.underlying3) rfl (FOpens.cons rfl (by kernel_rfl) (Opens.int Try.underlying3) rfl (FOpens.one rfl (by kernel_rfl) (Opens.int Try.underlying3))))

theorem opens26 : Opens Try.prog 26 encSystem (fun b => ((Lit.int .i64 b.States).wf = true) ∧ ((Lit.int .i64 b.Init).wf = true) ∧ (b.Costs.length ≤ maxLen ∧ ∀ y22 ∈ b.Costs, (Lit.int .i64 y22).wf = true) ∧ (b.Edges.length ≤ maxLen ∧ ∀ y23 ∈ b.Edges, ((Lit.int .i64 y23.From).wf = true) ∧ ((Lit.int .i64 y23.Label).wf = true) ∧ ((Lit.int .i64 y23.To).wf = true)) ∧ (b.Goals.length ≤ maxLen ∧ ∀ y24 ∈ b.Goals, True)) :=
  Opens.struct (fun t => ⟨t.1, t.2.1, t.2.2.1, t.2.2.2.1, t.2.2.2.2⟩) Try.underlying26 (by kernel_rfl) (fun _ => rfl)
    (FOpens.cons rfl (by kernel_rfl) (Opens.int Try.underlying3) rfl (FOpens.cons rfl (by kernel_rfl) (Opens.int Try.underlying3) rfl (FOpens.cons rfl (by kernel_rfl) (Opens.slice Try.underlying22 (by kernel_rfl) (Opens.int Try.underlying3)) rfl (FOpens.cons rfl (by kernel_rfl) (Opens.slice Try.underlying23 (by kernel_rfl) opens66) rfl (FOpens.one rfl (by kernel_rfl) (Opens.slice Try.underlying24 (by kernel_rfl) (Opens.bool Try.underlying4)))))))

set_option maxRecDepth 100000 in
theorem lifted0 (os : Os) (started : os.Started) (H : Type) (enc : TypeId × Value → H) :
    ReturnsInHanded {} Try.checked os 7 .any (Rows.transysFormsSpec.pre6 enc Try.prog Try.f7 Rows.transysFormsRow.domain false) (Rows.transysFormsSpec.post enc Try.prog Try.f7 false true false false) := by
  refine returnsInHanded_of_change (C := Try.checked) own0 started (by kernel_rfl) Try.func7
    (ChangeSpec.witness6 (enc := enc) (C := Try.checked) false ⟨#[], #[Value.agg #[Value.int .i64 (0), Value.int .i64 (0), Value.slice none 0 0, Value.slice none 0 0, Value.slice none 0 0]], []⟩ 8 (by kernel_rfl) (by kernel_rfl) (by kernel_rfl) (by kernel_rfl)) ?_
  intro W base args ds gs before hval0 hW hcnd _
  have hval : ∀ (j : Nat) t v, Try.f7.params[j]? = some t → args[j]? = some v → Value.okWide Try.prog W .any base t v := hval0
  have hW' := hW
  obtain ⟨p, q, hA0, hV, rfl, hfz, hnd⟩ := hW
  have hA : DataW.TrodAll enc Try.prog W 0 (fun _ => true) true Try.f7.params.toList args.toList ds p := hA0
  rw [Try.params7] at hA hval
  obtain ⟨v0, d0, rfl, rfl, h0⟩ := trodAll_one hA
  obtain ⟨rfl, rfl⟩ := trodVars_none hV
  simp only [List.append_nil] at hW'
  have hlt : ∀ x ∈ p, x.block < W.heap.size := fun x hx => by simpa using hW'.lt x hx
  obtain ⟨x0, b0, w0⟩ := arg_agg opens26 (.inl ⟨_, Try.underlying26⟩) rfl (hval 0 26 v0 rfl rfl) h0
  have e0 := encSystem_val.1 b0
  obtain ⟨u0_0, u0_1, u0_2, rfl, r0_0, r0_1, r0_2⟩ := e0
  refine (law44_TransysForms_sim ((law_ok x0)) (St.start W) r0_0 r0_1 r0_2).mono ?_
  rintro _ W' ⟨_, rfl, s', hle, hS', rfl⟩
  have hb := below_of_St hS' hle
  exact ⟨_, rfl, ⟨_, _, _, [], _, [], hW', trodAll_mk1 (shut_bool Try.underlying4 true),
    trodAll_mk1 (Below.trod laid0 (by kernel_rfl) (of_decide_eq_true (by kernel_rfl)) h0 hb fun x hx => hlt x (by simp [hx])), rfl, hb.frame _, fun h => by cases h⟩⟩

theorem said0 : Rows.TransysFormsSaid :=
  OpenClaim.holds_of_wide 7 Try.f7 rfl rfl rfl rfl rfl rfl rfl ⟨rfl, rfl, rfl, rfl, rfl⟩ rfl rfl rfl rfl rfl (by kernel_rfl) Try.func7 (by kernel_rfl)
    (of_decide_eq_true (by kernel_rfl)) (by unfold Func.isWrapper; first | (rw [if_pos (by decide +kernel)]; kernel_rfl) | (rw [if_neg (by decide +kernel)]; exact ⟨rfl, rfl⟩))
    (fun os started H enc _ => lifted0 os started H enc)
end Go.Pw
namespace Go.Proofs.Ytdhfofhginfdnaa
theorem transysForms_holds : Rows.TransysFormsSaid := Go.Pw.said0
end Go.Proofs.Ytdhfofhginfdnaa
