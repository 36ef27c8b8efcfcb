/-
  EncodePlan returns true for every input, and the input reads as it did: no conditions.
-/
import Derived.Test.YtjmapcjjkaffoaaGreatL7
import Derived.Test.YtjmapcjjkaffoaaGreatEq5
import Derived.Test.YtjmapcjjkaffoaaGreatEqPb
import Derived.Test.YtjmapcjjkaffoaaGreatRows
namespace Go.Pw
open Go.Proofs Go.Proofs.YtjmapcjjkaffoaaGreat Go.ChangeShapes Go.WideShapes Go.ChangeAt Go.RowKit
theorem own0 : ownKnob Tryz.prog.godebug = none := by kernel_rfl
theorem laid0 : laidOutB Tryz.prog = true := by kernel_rfl
set_option maxRecDepth 100000 in
theorem lifted0 (os : Os) (started : os.Started) (H : Type) (enc : TypeId × Value → H) :
    ReturnsInHanded {} Tryz.checked os 4 .any (Rows.encodePlanSpec.pre6 enc Tryz.prog Tryz.f4 Rows.encodePlanRow.domain false) (Rows.encodePlanSpec.post enc Tryz.prog Tryz.f4 false true false false) := by
  refine returnsInHanded_of_change (C := Tryz.checked) own0 started (by kernel_rfl) Tryz.func4
    (ChangeSpec.witness6 (enc := enc) (C := Tryz.checked) false ⟨#[], #[Value.slice none 0 0, Value.slice none 0 0], []⟩ 8 (by kernel_rfl) (by kernel_rfl) (by kernel_rfl) (by kernel_rfl)) ?_
  intro W base args ds gs before hval0 hW hcnd _
  have hval : ∀ (j : Nat) t v, Tryz.f4.params[j]? = some t → args[j]? = some v → Value.okWide Tryz.prog W .any base t v := hval0
  have hW' := hW
  obtain ⟨p, q, hA0, hV, rfl, hfz, hnd⟩ := hW
  have hA : DataW.TrodAll enc Tryz.prog W 0 (fun _ => true) true Tryz.f4.params.toList args.toList ds p := hA0
  rw [Tryz.params4] at hA hval
  obtain ⟨v0, v1, d0, d1, p0, p1, rfl, rfl, rfl, h0, h1⟩ := trodAll_two hA
  obtain ⟨rfl, rfl⟩ := trodVars_none hV
  simp only [List.append_nil] at hW'
  have hlt : ∀ x ∈ p0 ++ p1, x.block < W.heap.size := fun x hx => by simpa using hW'.lt x hx
  obtain ⟨x0, a0, l0, w0⟩ := arg_slice (E := (encInt .i64)) Tryz.underlying24 (by kernel_rfl) (Opens.int Tryz.underlying3) (hval 0 24 v0 rfl rfl) h0
  obtain ⟨x1, a1, l1, w1⟩ := arg_slice (E := (encInt .i64)) Tryz.underlying24 (by kernel_rfl) (Opens.int Tryz.underlying3) (hval 1 24 v1 rfl rfl) h1
  refine (law21_EncodePlan_sim (encodePlan_ok 0 x0 x1) (St.start W) a0 a1).mono ?_
  rintro _ W' ⟨_, rfl, s', hle, hS', rfl⟩
  have hb := below_of_St hS' hle
  exact ⟨_, rfl, ⟨_, _, _, [], _, [], hW', trodAll_mk1 (shut_bool Tryz.underlying4 true),
    trodAll_mk2 (Below.trod laid0 (by kernel_rfl) (of_decide_eq_true (by kernel_rfl)) h0 hb fun x hx => hlt x (by simp [hx])) (Below.trod laid0 (by kernel_rfl) (of_decide_eq_true (by kernel_rfl)) h1 hb fun x hx => hlt x (by simp [hx])), rfl, hb.frame _, fun h => by cases h⟩⟩
theorem said0 : Rows.EncodePlanSaid :=
  OpenClaim.holds_of_wide 4 Tryz.f4 rfl rfl rfl rfl rfl rfl rfl ⟨rfl, rfl, rfl, rfl, rfl⟩ rfl rfl rfl rfl rfl (by kernel_rfl) Tryz.func4 (by kernel_rfl)
    (of_decide_eq_true (by kernel_rfl)) (by unfold Func.isWrapper; first | (rw [if_pos (by decide +kernel)]; kernel_rfl) | (rw [if_neg (by decide +kernel)]; exact ⟨rfl, rfl⟩))
    (fun os started H enc _ => lifted0 os started H enc)
end Go.Pw
namespace Go.Proofs.YtjmapcjjkaffoaaGreat
theorem encodePlan_holds : Rows.EncodePlanSaid := Go.Pw.said0
end Go.Proofs.YtjmapcjjkaffoaaGreat
