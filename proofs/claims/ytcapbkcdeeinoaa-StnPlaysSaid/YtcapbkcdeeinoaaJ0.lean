/-
  StnPlays returns true for every input, and the input reads as it did: no conditions. (The statement, from the walk and the plain law.)
-/
import Derived.Test.YtcapbkcdeeinoaaL7
import Derived.Test.YtcapbkcdeeinoaaW2
import Derived.Test.YtcapbkcdeeinoaaS3
import Derived.Test.YtcapbkcdeeinoaaRows
namespace Go.Pw
open Go.Proofs Go.Proofs.Ytcapbkcdeeinoaa Go.ChangeShapes Go.WideShapes Go.ChangeAt Go.RowKit

theorem own0 : ownKnob Try.prog.godebug = none := by kernel_rfl
theorem laid0 : laidOutB Try.prog = true := by kernel_rfl
theorem opensBound : Opens Try.prog 32 encBound (fun b => (Lit.int .i64 b.A).wf = true ∧ (Lit.int .i64 b.B).wf = true ∧ (Lit.int .i64 b.Most).wf = true) :=
  Opens.struct (fun t => ⟨t.1, t.2.1, t.2.2⟩) Try.underlying32 (by kernel_rfl) (fun _ => rfl)
    (FOpens.cons rfl (by kernel_rfl) (Opens.int Try.underlying3) rfl (FOpens.cons rfl (by kernel_rfl) (Opens.int Try.underlying3) rfl (FOpens.one rfl (by kernel_rfl) (Opens.int Try.underlying3))))

set_option maxRecDepth 100000 in
theorem StnPlays_lifted (os : Os) (started : os.Started) (H : Type) (enc : TypeId × Value → H) :
    ReturnsInHanded {} Try.checked os 3 .any (Rows.stnPlaysSpec.pre6 enc Try.prog Try.f3 Rows.stnPlaysRow.domain false) (Rows.stnPlaysSpec.post enc Try.prog Try.f3 false true false false) := by
  refine returnsInHanded_of_change (C := Try.checked) own0 started (by kernel_rfl) Try.func3
    (ChangeSpec.witness6 (enc := enc) (C := Try.checked) false ⟨#[], #[.int .i64 0, .slice none 0 0], []⟩ 8 (by kernel_rfl) (by kernel_rfl) (by kernel_rfl) (by kernel_rfl)) ?_
  intro W base args ds gs before hval0 hW hcnd _
  have hval : ∀ (j : Nat) t v, Try.f3.params[j]? = some t → args[j]? = some v → Value.okWide Try.prog W .any base t v := hval0
  have hW' := hW
  obtain ⟨p, q, hA0, hV, rfl, hfz, hnd⟩ := hW
  have hA : DataW.TrodAll enc Try.prog W 0 (fun _ => true) true Try.f3.params.toList args.toList ds p := hA0
  rw [Try.params3] at hA hval
  obtain ⟨v0, v1, d0, d1, p0, p1, rfl, rfl, rfl, h0, h1⟩ := trodAll_two hA
  obtain ⟨rfl, rfl⟩ := trodVars_none hV
  simp only [List.append_nil] at hW'
  have hlt : ∀ x ∈ p0 ++ p1, x.block < W.heap.size := fun x hx => by simpa using hW'.lt x hx
  obtain ⟨n, rfl, _⟩ := arg_int Try.underlying3 (hval 0 3 v0 rfl rfl) h0
  obtain ⟨bs, hbs, _, _⟩ := arg_slice (E := encBound) Try.underlying22 (by kernel_rfl) opensBound (hval 1 22 v1 rfl rfl) h1
  refine (law54_StnPlays_sim (StnPlays_ok n bs) (St.start W) hbs).mono ?_
  rintro _ W' ⟨_, rfl, s', hle, hS', rfl⟩
  have hb := below_of_St hS' hle
  exact ⟨_, rfl, ⟨_, _, _, [], _, [], hW', trodAll_mk1 (shut_bool Try.underlying4 true),
    trodAll_mk2 (Below.trod laid0 (by kernel_rfl) (of_decide_eq_true (by kernel_rfl)) h0 hb fun x hx => hlt x (List.mem_append_left _ hx))
      (Below.trod laid0 (by kernel_rfl) (of_decide_eq_true (by kernel_rfl)) h1 hb fun x hx => hlt x (List.mem_append_right _ hx)), rfl, hb.frame _, fun h => by cases h⟩⟩

theorem StnPlays_said : Rows.StnPlaysSaid :=
  OpenClaim.holds_of_wide 3 Try.f3 rfl rfl rfl rfl rfl rfl rfl ⟨rfl, rfl, rfl, rfl, rfl⟩ rfl rfl rfl rfl rfl (by kernel_rfl) Try.func3 (by kernel_rfl)
    (of_decide_eq_true (by kernel_rfl)) (by unfold Func.isWrapper; first | (rw [if_pos (by decide +kernel)]; kernel_rfl) | (rw [if_neg (by decide +kernel)]; exact ⟨rfl, rfl⟩))
    (fun os started H enc _ => StnPlays_lifted os started H enc)
end Go.Pw
namespace Go.Proofs.Ytcapbkcdeeinoaa
theorem stnPlays_holds : Rows.StnPlaysSaid := Go.Pw.StnPlays_said
end Go.Proofs.Ytcapbkcdeeinoaa
