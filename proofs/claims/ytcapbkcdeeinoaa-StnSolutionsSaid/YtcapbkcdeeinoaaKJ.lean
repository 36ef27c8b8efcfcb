/-
  StnSolutions returns true for every input, and the input reads as it did: no conditions.
-/
import Derived.Test.YtcapbkcdeeinoaaL7
import Derived.Test.YtcapbkcdeeinoaaK1
import Derived.Test.YtcapbkcdeeinoaaKQ1
import Derived.Test.YtcapbkcdeeinoaaRows
namespace Go.Pw
open Go.Proofs Go.Proofs.Ytcapbkcdeeinoaa Go.ChangeShapes Go.WideShapes Go.ChangeAt Go.RowKit

theorem own0 : ownKnob Try.prog.godebug = none := by kernel_rfl
theorem laid0 : laidOutB Try.prog = true := by kernel_rfl
theorem opens42 : Opens Try.prog 42 encArr2_uint8 (fun b => ((Lit.int .u8 b.a0).wf = true) ∧ ((Lit.int .u8 b.a1).wf = true)) :=
  Opens.arrs (fs := [⟨ "a0", 5, 0, false, "", "", 0⟩, ⟨ "a1", 5, 1, false, "", "", 0⟩]) (fun t => ⟨t.1, t.2⟩) Try.underlying42 (by kernel_rfl) (by
    intro fd hfd
    have hc : Try.prog.cellsOf 5 = 1 := by kernel_rfl
    rw [hc]
    simp only [List.mem_cons, List.not_mem_nil, or_false] at hfd
    rcases hfd with rfl | rfl
    · exact ⟨rfl, 0, by decide, rfl⟩
    · exact ⟨rfl, 1, by decide, rfl⟩) (fun _ => rfl)
    (FOpens.cons rfl (by kernel_rfl) (Opens.int Try.underlying5) rfl (FOpens.one rfl (by kernel_rfl) (Opens.int Try.underlying5)))

set_option maxRecDepth 100000 in
theorem lifted0 (os : Os) (started : os.Started) (H : Type) (enc : TypeId × Value → H) :
    ReturnsInHanded {} Try.checked os 5 .any (Rows.stnSolutionsSpec.pre6 enc Try.prog Try.f5 Rows.stnSolutionsRow.domain false) (Rows.stnSolutionsSpec.post enc Try.prog Try.f5 false true false false) := by
  refine returnsInHanded_of_change (C := Try.checked) own0 started (by kernel_rfl) Try.func5
    (ChangeSpec.witness6 (enc := enc) (C := Try.checked) false ⟨#[], #[Value.slice none 0 0, Value.slice none 0 0, Value.slice none 0 0], []⟩ 8 (by kernel_rfl) (by kernel_rfl) (by kernel_rfl) (by kernel_rfl)) ?_
  intro W base args ds gs before hval0 hW hcnd _
  have hval : ∀ (j : Nat) t v, Try.f5.params[j]? = some t → args[j]? = some v → Value.okWide Try.prog W .any base t v := hval0
  have hW' := hW
  obtain ⟨p, q, hA0, hV, rfl, hfz, hnd⟩ := hW
  have hA : DataW.TrodAll enc Try.prog W 0 (fun _ => true) true Try.f5.params.toList args.toList ds p := hA0
  rw [Try.params5] at hA hval
  obtain ⟨v0, v1, v2, d0, d1, d2, p0, p1, p2, rfl, rfl, rfl, h0, h1, h2⟩ := trodAll_three hA
  obtain ⟨rfl, rfl⟩ := trodVars_none hV
  simp only [List.append_nil] at hW'
  have hlt : ∀ x ∈ p0 ++ p1 ++ p2, x.block < W.heap.size := fun x hx => by simpa using hW'.lt x hx
  obtain ⟨x0, a0, l0, w0⟩ := arg_slice (E := (encInt .i16)) Try.underlying46 (by kernel_rfl) (Opens.int Try.underlying50) (hval 0 46 v0 rfl rfl) h0
  obtain ⟨x1, a1, l1, w1⟩ := arg_slice (E := encArr2_uint8) Try.underlying47 (by kernel_rfl) opens42 (hval 1 47 v1 rfl rfl) h1
  obtain ⟨x2, a2, l2, w2⟩ := arg_slice (E := (encInt .u8)) Try.underlying48 (by kernel_rfl) (Opens.int Try.underlying5) (hval 2 48 v2 rfl rfl) h2
  refine (law54_StnSolutions_sim (StnSolutions_ok x0 x1 x2 (fun y hy => wf_i16 (w0 y hy)) (fun p hp => ⟨wf_u8 (w1 p hp).1, wf_u8 (w1 p hp).2⟩) (fun y hy => wf_u8 (w2 y hy))) (St.start W) a0 a1 a2).mono ?_
  rintro _ W' ⟨_, rfl, s', hle, hS', rfl⟩
  have hb := below_of_St hS' hle
  exact ⟨_, rfl, ⟨_, _, _, [], _, [], hW', trodAll_mk1 (shut_bool Try.underlying4 true),
    trodAll_mk3 (Below.trod laid0 (by kernel_rfl) (of_decide_eq_true (by kernel_rfl)) h0 hb fun x hx => hlt x (by simp [hx])) (Below.trod laid0 (by kernel_rfl) (of_decide_eq_true (by kernel_rfl)) h1 hb fun x hx => hlt x (by simp [hx])) (Below.trod laid0 (by kernel_rfl) (of_decide_eq_true (by kernel_rfl)) h2 hb fun x hx => hlt x (by simp [hx])), rfl, hb.frame _, fun h => by cases h⟩⟩

theorem said0 : Rows.StnSolutionsSaid :=
  OpenClaim.holds_of_wide 5 Try.f5 rfl rfl rfl rfl rfl rfl rfl ⟨rfl, rfl, rfl, rfl, rfl⟩ rfl rfl rfl rfl rfl (by kernel_rfl) Try.func5 (by kernel_rfl)
    (of_decide_eq_true (by kernel_rfl)) (by unfold Func.isWrapper; first | (rw [if_pos (by decide +kernel)]; kernel_rfl) | (rw [if_neg (by decide +kernel)]; exact ⟨rfl, rfl⟩))
    (fun os started H enc _ => lifted0 os started H enc)
end Go.Pw
namespace Go.Proofs.Ytcapbkcdeeinoaa
theorem stnSolutions_holds : Rows.StnSolutionsSaid := Go.Pw.said0
end Go.Proofs.Ytcapbkcdeeinoaa
