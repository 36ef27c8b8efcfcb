/-
  ScheduleLimits returns true for every input, and the input reads as it did: no conditions.
-/
import Derived.Test.YtoofdhjblbnppaaL7
import Derived.Test.YtoofdhjblbnppaaYa5
import Derived.Test.YtoofdhjblbnppaaYaHo
import Derived.Test.YtoofdhjblbnppaaRows
namespace Go.Pw
open Go.Proofs Go.Proofs.Ytoofdhjblbnppaa Go.ChangeShapes Go.WideShapes Go.ChangeAt Go.RowKit
theorem own0 : ownKnob Try.prog.godebug = none := by kernel_rfl
theorem laid0 : laidOutB Try.prog = true := by kernel_rfl
set_option maxRecDepth 100000 in
theorem lifted0 (os : Os) (started : os.Started) (H : Type) (enc : TypeId × Value → H) :
    ReturnsInHanded {} Try.checked os 4 .any (Rows.scheduleLimitsSpec.pre6 enc Try.prog Try.f4 Rows.scheduleLimitsRow.domain false) (Rows.scheduleLimitsSpec.post enc Try.prog Try.f4 false true false false) := by
  refine returnsInHanded_of_change (C := Try.checked) own0 started (by kernel_rfl) Try.func4
    (ChangeSpec.witness6 (enc := enc) (C := Try.checked) false ⟨#[], #[Value.int .u8 (0), Value.int .u8 (0)], []⟩ 8 (by kernel_rfl) (by kernel_rfl) (by kernel_rfl) (by kernel_rfl)) ?_
  intro W base args ds gs before hval0 hW hcnd _
  have hval : ∀ (j : Nat) t v, Try.f4.params[j]? = some t → args[j]? = some v → Value.okWide Try.prog W .any base t v := hval0
  have hW' := hW
  obtain ⟨p, q, hA0, hV, rfl, hfz, hnd⟩ := hW
  have hA : DataW.TrodAll enc Try.prog W 0 (fun _ => true) true Try.f4.params.toList args.toList ds p := hA0
  rw [Try.params4] at hA hval
  obtain ⟨v0, v1, d0, d1, p0, p1, rfl, rfl, rfl, h0, h1⟩ := trodAll_two hA
  obtain ⟨rfl, rfl⟩ := trodVars_none hV
  simp only [List.append_nil] at hW'
  have hlt : ∀ x ∈ p0 ++ p1, x.block < W.heap.size := fun x hx => by simpa using hW'.lt x hx
  obtain ⟨x0, rfl, w0⟩ := arg_int Try.underlying5 (hval 0 5 v0 rfl rfl) h0
  obtain ⟨x1, rfl, w1⟩ := arg_int Try.underlying5 (hval 1 5 v1 rfl rfl) h1
  refine (law57_ScheduleLimits_sim (Limits_ok (wf_u8 w0) (wf_u8 w1)) (St.start W) ).mono ?_
  rintro _ W' ⟨_, rfl, s', hle, hS', rfl⟩
  have hb := below_of_St hS' hle
  exact ⟨_, rfl, ⟨_, _, _, [], _, [], hW', trodAll_mk1 (shut_bool Try.underlying4 true),
    trodAll_mk2 (Below.trod laid0 (by kernel_rfl) (of_decide_eq_true (by kernel_rfl)) h0 hb fun x hx => hlt x (by simp [hx])) (Below.trod laid0 (by kernel_rfl) (of_decide_eq_true (by kernel_rfl)) h1 hb fun x hx => hlt x (by simp [hx])), rfl, hb.frame _, fun h => by cases h⟩⟩
theorem said0 : Rows.ScheduleLimitsSaid :=
  OpenClaim.holds_of_wide 4 Try.f4 rfl rfl rfl rfl rfl rfl rfl ⟨rfl, rfl, rfl, rfl, rfl⟩ rfl rfl rfl rfl rfl (by kernel_rfl) Try.func4 (by kernel_rfl)
    (of_decide_eq_true (by kernel_rfl)) (by unfold Func.isWrapper; first | (rw [if_pos (by decide +kernel)]; kernel_rfl) | (rw [if_neg (by decide +kernel)]; exact ⟨rfl, rfl⟩))
    (fun os started H enc _ => lifted0 os started H enc)
end Go.Pw
namespace Go.Proofs.Ytoofdhjblbnppaa
theorem scheduleLimits_holds : Rows.ScheduleLimitsSaid := Go.Pw.said0
end Go.Proofs.Ytoofdhjblbnppaa
