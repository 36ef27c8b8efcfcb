/-
  SimplifyFollows returns true for every input, and the input reads as it did: no conditions.
-/
import Derived.Test.YtkfcbmecmdpilaaL7
import Derived.Test.YtkfcbmecmdpilaaL37
import Derived.SizedLaws
import Derived.Test.YtkfcbmecmdpilaaSx10
import Derived.Test.YtkfcbmecmdpilaaSxVQ
import Derived.Test.YtkfcbmecmdpilaaSxWF
import Derived.Test.YtkfcbmecmdpilaaRows
namespace Go.Pw
open Go.Proofs Go.Proofs.Ytkfcbmecmdpilaa Go.ChangeShapes Go.WideShapes Go.ChangeAt Go.RowKit
theorem own0 : ownKnob Try.prog.godebug = none := by kernel_rfl
theorem laid0 : laidOutB Try.prog = true := by kernel_rfl
theorem opens56 : ∀ N, OpensW N Try.prog 56 encAtom (fun b => (b.Name.size ≤ maxLen) ∧ (b.Args.length ≤ maxLen ∧ b.Args.length * 16 ≤ 140737488351232 ∧ ∀ y54 ∈ b.Args, y54.size ≤ maxLen)) := fun N =>
  OpensW.mono (OpensW.struct (fun t => ⟨t.1, t.2⟩) Try.underlying56 (by kernel_rfl) (fun _ => rfl)
    (FOpensW.cons rfl (by kernel_rfl) (Opens.toW (Opens.str Try.underlying9)) rfl (FOpensW.one rfl (by kernel_rfl) (OpensW.mono (OpensW.slice Try.underlying54 (by kernel_rfl) (m := 16) (by kernel_rfl) (Opens.toW (Opens.str Try.underlying9))) (Nat.le_succ N) (fun _ h => h))))) (Nat.le_succ N) (fun _ h => h)
theorem opens93 : ∀ N, OpensW N Try.prog 93 encGFluent (fun b => ((b.Fluent.Name.size ≤ maxLen) ∧ (b.Fluent.Args.length ≤ maxLen ∧ b.Fluent.Args.length * 16 ≤ 140737488351232 ∧ ∀ y54 ∈ b.Fluent.Args, y54.size ≤ maxLen)) ∧ ((Lit.int .i64 b.Lo).wf = true) ∧ ((Lit.int .i64 b.Hi).wf = true) ∧ ((Lit.int .i64 b.Init).wf = true)) := fun N =>
  OpensW.mono (OpensW.struct (fun t => ⟨t.1, t.2.1, t.2.2.1, t.2.2.2⟩) Try.underlying93 (by kernel_rfl) (fun _ => rfl)
    (FOpensW.cons rfl (by kernel_rfl) (opens56 N) rfl (FOpensW.cons rfl (by kernel_rfl) (Opens.toW (Opens.int Try.underlying3)) rfl (FOpensW.cons rfl (by kernel_rfl) (Opens.toW (Opens.int Try.underlying3)) rfl (FOpensW.one rfl (by kernel_rfl) (Opens.toW (Opens.int Try.underlying3))))))) (Nat.le_succ N) (fun _ h => h)
theorem opens82 : ∀ N, OpensW N Try.prog 82 encGExpr WFE :=
  OpensW.fix fun N ih => OpensW.of_iff encGExpr_iff (OpensW.mono (OpensW.struct (fun t => ⟨t.1, t.2.1, t.2.2⟩) Try.underlying82 (by kernel_rfl) (fun _ => rfl)
    (FOpensW.cons rfl (by kernel_rfl) (Opens.toW (Opens.str Try.underlying9)) rfl (FOpensW.cons rfl (by kernel_rfl) (Opens.toW (Opens.int Try.underlying3)) rfl (FOpensW.one rfl (by kernel_rfl) (OpensW.mono (OpensW.slice Try.underlying80 (by kernel_rfl) (m := 48) (by kernel_rfl) ih) (Nat.le_succ N) (fun _ h => h)))))) (Nat.le_refl _) (fun a h => by cases a; exact WFE.mk h.2.2.1 h.2.2.2.2))
theorem opens129 : ∀ N, OpensW N Try.prog 129 encGTest (fun b => (b.Op.size ≤ maxLen) ∧ (WFE b.A) ∧ (WFE b.B)) := fun N =>
  OpensW.mono (OpensW.struct (fun t => ⟨t.1, t.2.1, t.2.2⟩) Try.underlying129 (by kernel_rfl) (fun _ => rfl)
    (FOpensW.cons rfl (by kernel_rfl) (Opens.toW (Opens.str Try.underlying9)) rfl (FOpensW.cons rfl (by kernel_rfl) (opens82 N) rfl (FOpensW.one rfl (by kernel_rfl) (opens82 N))))) (Nat.le_succ N) (fun _ h => h)
theorem opens47 : ∀ N, OpensW N Try.prog 47 encCond (fun b => (b.Pos.length ≤ maxLen ∧ b.Pos.length * 8 ≤ 140737488351232 ∧ ∀ y24 ∈ b.Pos, (Lit.int .i64 y24).wf = true) ∧ (b.Neg.length ≤ maxLen ∧ b.Neg.length * 8 ≤ 140737488351232 ∧ ∀ y24 ∈ b.Neg, (Lit.int .i64 y24).wf = true) ∧ (b.Tests.length ≤ maxLen ∧ b.Tests.length * 112 ≤ 140737488351232 ∧ ∀ y45 ∈ b.Tests, (y45.Op.size ≤ maxLen) ∧ (WFE y45.A) ∧ (WFE y45.B))) := fun N =>
  OpensW.mono (OpensW.struct (fun t => ⟨t.1, t.2.1, t.2.2⟩) Try.underlying47 (by kernel_rfl) (fun _ => rfl)
    (FOpensW.cons rfl (by kernel_rfl) (OpensW.mono (OpensW.slice Try.underlying24 (by kernel_rfl) (m := 8) (by kernel_rfl) (Opens.toW (Opens.int Try.underlying3))) (Nat.le_succ N) (fun _ h => h)) rfl (FOpensW.cons rfl (by kernel_rfl) (OpensW.mono (OpensW.slice Try.underlying24 (by kernel_rfl) (m := 8) (by kernel_rfl) (Opens.toW (Opens.int Try.underlying3))) (Nat.le_succ N) (fun _ h => h)) rfl (FOpensW.one rfl (by kernel_rfl) (OpensW.mono (OpensW.slice Try.underlying45 (by kernel_rfl) (m := 112) (by kernel_rfl) (opens129 N)) (Nat.le_succ N) (fun _ h => h)))))) (Nat.le_succ N) (fun _ h => h)
theorem opens58 : ∀ N, OpensW N Try.prog 58 encGChange (fun b => ((b.When.Pos.length ≤ maxLen ∧ b.When.Pos.length * 8 ≤ 140737488351232 ∧ ∀ y24 ∈ b.When.Pos, (Lit.int .i64 y24).wf = true) ∧ (b.When.Neg.length ≤ maxLen ∧ b.When.Neg.length * 8 ≤ 140737488351232 ∧ ∀ y24 ∈ b.When.Neg, (Lit.int .i64 y24).wf = true) ∧ (b.When.Tests.length ≤ maxLen ∧ b.When.Tests.length * 112 ≤ 140737488351232 ∧ ∀ y45 ∈ b.When.Tests, (y45.Op.size ≤ maxLen) ∧ (WFE y45.A) ∧ (WFE y45.B))) ∧ ((Lit.int .i64 b.Atom).wf = true) ∧ (True)) := fun N =>
  OpensW.mono (OpensW.struct (fun t => ⟨t.1, t.2.1, t.2.2⟩) Try.underlying58 (by kernel_rfl) (fun _ => rfl)
    (FOpensW.cons rfl (by kernel_rfl) (opens47 N) rfl (FOpensW.cons rfl (by kernel_rfl) (Opens.toW (Opens.int Try.underlying3)) rfl (FOpensW.one rfl (by kernel_rfl) (Opens.toW (Opens.bool Try.underlying4)))))) (Nat.le_succ N) (fun _ h => h)
theorem opens84 : ∀ N, OpensW N Try.prog 84 encGAssign (fun b => ((Lit.int .i64 b.Fluent).wf = true) ∧ (WFE b.Value)) := fun N =>
  OpensW.mono (OpensW.struct (fun t => ⟨t.1, t.2⟩) Try.underlying84 (by kernel_rfl) (fun _ => rfl)
    (FOpensW.cons rfl (by kernel_rfl) (Opens.toW (Opens.int Try.underlying3)) rfl (FOpensW.one rfl (by kernel_rfl) (opens82 N)))) (Nat.le_succ N) (fun _ h => h)
theorem opens51 : ∀ N, OpensW N Try.prog 51 encGOp (fun b => (b.Name.size ≤ maxLen) ∧ ((Lit.int .i64 b.Cost).wf = true) ∧ ((b.Pre.Pos.length ≤ maxLen ∧ b.Pre.Pos.length * 8 ≤ 140737488351232 ∧ ∀ y24 ∈ b.Pre.Pos, (Lit.int .i64 y24).wf = true) ∧ (b.Pre.Neg.length ≤ maxLen ∧ b.Pre.Neg.length * 8 ≤ 140737488351232 ∧ ∀ y24 ∈ b.Pre.Neg, (Lit.int .i64 y24).wf = true) ∧ (b.Pre.Tests.length ≤ maxLen ∧ b.Pre.Tests.length * 112 ≤ 140737488351232 ∧ ∀ y45 ∈ b.Pre.Tests, (y45.Op.size ≤ maxLen) ∧ (WFE y45.A) ∧ (WFE y45.B))) ∧ (b.Changes.length ≤ maxLen ∧ b.Changes.length * 88 ≤ 140737488351232 ∧ ∀ y48 ∈ b.Changes, ((y48.When.Pos.length ≤ maxLen ∧ y48.When.Pos.length * 8 ≤ 140737488351232 ∧ ∀ y24 ∈ y48.When.Pos, (Lit.int .i64 y24).wf = true) ∧ (y48.When.Neg.length ≤ maxLen ∧ y48.When.Neg.length * 8 ≤ 140737488351232 ∧ ∀ y24 ∈ y48.When.Neg, (Lit.int .i64 y24).wf = true) ∧ (y48.When.Tests.length ≤ maxLen ∧ y48.When.Tests.length * 112 ≤ 140737488351232 ∧ ∀ y45 ∈ y48.When.Tests, (y45.Op.size ≤ maxLen) ∧ (WFE y45.A) ∧ (WFE y45.B))) ∧ ((Lit.int .i64 y48.Atom).wf = true) ∧ (True)) ∧ (b.Assigns.length ≤ maxLen ∧ b.Assigns.length * 56 ≤ 140737488351232 ∧ ∀ y49 ∈ b.Assigns, ((Lit.int .i64 y49.Fluent).wf = true) ∧ (WFE y49.Value))) := fun N =>
  OpensW.mono (OpensW.struct (fun t => ⟨t.1, t.2.1, t.2.2.1, t.2.2.2.1, t.2.2.2.2⟩) Try.underlying51 (by kernel_rfl) (fun _ => rfl)
    (FOpensW.cons rfl (by kernel_rfl) (Opens.toW (Opens.str Try.underlying9)) rfl (FOpensW.cons rfl (by kernel_rfl) (Opens.toW (Opens.int Try.underlying3)) rfl (FOpensW.cons rfl (by kernel_rfl) (opens47 N) rfl (FOpensW.cons rfl (by kernel_rfl) (OpensW.mono (OpensW.slice Try.underlying48 (by kernel_rfl) (m := 88) (by kernel_rfl) (opens58 N)) (Nat.le_succ N) (fun _ h => h)) rfl (FOpensW.one rfl (by kernel_rfl) (OpensW.mono (OpensW.slice Try.underlying49 (by kernel_rfl) (m := 56) (by kernel_rfl) (opens84 N)) (Nat.le_succ N) (fun _ h => h)))))))) (Nat.le_succ N) (fun _ h => h)
theorem opens28 : ∀ N, OpensW N Try.prog 28 encGround (fun b => (b.Atoms.length ≤ maxLen ∧ b.Atoms.length * 40 ≤ 140737488351232 ∧ ∀ y22 ∈ b.Atoms, (y22.Name.size ≤ maxLen) ∧ (y22.Args.length ≤ maxLen ∧ y22.Args.length * 16 ≤ 140737488351232 ∧ ∀ y54 ∈ y22.Args, y54.size ≤ maxLen)) ∧ (b.Fluents.length ≤ maxLen ∧ b.Fluents.length * 64 ≤ 140737488351232 ∧ ∀ y23 ∈ b.Fluents, ((y23.Fluent.Name.size ≤ maxLen) ∧ (y23.Fluent.Args.length ≤ maxLen ∧ y23.Fluent.Args.length * 16 ≤ 140737488351232 ∧ ∀ y54 ∈ y23.Fluent.Args, y54.size ≤ maxLen)) ∧ ((Lit.int .i64 y23.Lo).wf = true) ∧ ((Lit.int .i64 y23.Hi).wf = true) ∧ ((Lit.int .i64 y23.Init).wf = true)) ∧ (b.Init.length ≤ maxLen ∧ b.Init.length * 8 ≤ 140737488351232 ∧ ∀ y24 ∈ b.Init, (Lit.int .i64 y24).wf = true) ∧ (b.Goal.length ≤ maxLen ∧ b.Goal.length * 72 ≤ 140737488351232 ∧ ∀ y25 ∈ b.Goal, (y25.Pos.length ≤ maxLen ∧ y25.Pos.length * 8 ≤ 140737488351232 ∧ ∀ y24 ∈ y25.Pos, (Lit.int .i64 y24).wf = true) ∧ (y25.Neg.length ≤ maxLen ∧ y25.Neg.length * 8 ≤ 140737488351232 ∧ ∀ y24 ∈ y25.Neg, (Lit.int .i64 y24).wf = true) ∧ (y25.Tests.length ≤ maxLen ∧ y25.Tests.length * 112 ≤ 140737488351232 ∧ ∀ y45 ∈ y25.Tests, (y45.Op.size ≤ maxLen) ∧ (WFE y45.A) ∧ (WFE y45.B))) ∧ (b.Ops.length ≤ maxLen ∧ b.Ops.length * 144 ≤ 140737488351232 ∧ ∀ y26 ∈ b.Ops, (y26.Name.size ≤ maxLen) ∧ ((Lit.int .i64 y26.Cost).wf = true) ∧ ((y26.Pre.Pos.length ≤ maxLen ∧ y26.Pre.Pos.length * 8 ≤ 140737488351232 ∧ ∀ y24 ∈ y26.Pre.Pos, (Lit.int .i64 y24).wf = true) ∧ (y26.Pre.Neg.length ≤ maxLen ∧ y26.Pre.Neg.length * 8 ≤ 140737488351232 ∧ ∀ y24 ∈ y26.Pre.Neg, (Lit.int .i64 y24).wf = true) ∧ (y26.Pre.Tests.length ≤ maxLen ∧ y26.Pre.Tests.length * 112 ≤ 140737488351232 ∧ ∀ y45 ∈ y26.Pre.Tests, (y45.Op.size ≤ maxLen) ∧ (WFE y45.A) ∧ (WFE y45.B))) ∧ (y26.Changes.length ≤ maxLen ∧ y26.Changes.length * 88 ≤ 140737488351232 ∧ ∀ y48 ∈ y26.Changes, ((y48.When.Pos.length ≤ maxLen ∧ y48.When.Pos.length * 8 ≤ 140737488351232 ∧ ∀ y24 ∈ y48.When.Pos, (Lit.int .i64 y24).wf = true) ∧ (y48.When.Neg.length ≤ maxLen ∧ y48.When.Neg.length * 8 ≤ 140737488351232 ∧ ∀ y24 ∈ y48.When.Neg, (Lit.int .i64 y24).wf = true) ∧ (y48.When.Tests.length ≤ maxLen ∧ y48.When.Tests.length * 112 ≤ 140737488351232 ∧ ∀ y45 ∈ y48.When.Tests, (y45.Op.size ≤ maxLen) ∧ (WFE y45.A) ∧ (WFE y45.B))) ∧ ((Lit.int .i64 y48.Atom).wf = true) ∧ (True)) ∧ (y26.Assigns.length ≤ maxLen ∧ y26.Assigns.length * 56 ≤ 140737488351232 ∧ ∀ y49 ∈ y26.Assigns, ((Lit.int .i64 y49.Fluent).wf = true) ∧ (WFE y49.Value)))) := fun N =>
  OpensW.mono (OpensW.struct (fun t => ⟨t.1, t.2.1, t.2.2.1, t.2.2.2.1, t.2.2.2.2⟩) Try.underlying28 (by kernel_rfl) (fun _ => rfl)
    (FOpensW.cons rfl (by kernel_rfl) (OpensW.mono (OpensW.slice Try.underlying22 (by kernel_rfl) (m := 40) (by kernel_rfl) (opens56 N)) (Nat.le_succ N) (fun _ h => h)) rfl (FOpensW.cons rfl (by kernel_rfl) (OpensW.mono (OpensW.slice Try.underlying23 (by kernel_rfl) (m := 64) (by kernel_rfl) (opens93 N)) (Nat.le_succ N) (fun _ h => h)) rfl (FOpensW.cons rfl (by kernel_rfl) (OpensW.mono (OpensW.slice Try.underlying24 (by kernel_rfl) (m := 8) (by kernel_rfl) (Opens.toW (Opens.int Try.underlying3))) (Nat.le_succ N) (fun _ h => h)) rfl (FOpensW.cons rfl (by kernel_rfl) (OpensW.mono (OpensW.slice Try.underlying25 (by kernel_rfl) (m := 72) (by kernel_rfl) (opens47 N)) (Nat.le_succ N) (fun _ h => h)) rfl (FOpensW.one rfl (by kernel_rfl) (OpensW.mono (OpensW.slice Try.underlying26 (by kernel_rfl) (m := 144) (by kernel_rfl) (opens51 N)) (Nat.le_succ N) (fun _ h => h)))))))) (Nat.le_succ N) (fun _ h => h)
set_option maxRecDepth 100000 in
theorem lifted0 (os : Os) (started : os.Started) (H : Type) (enc : TypeId × Value → H) :
    ReturnsInHanded {} Try.checked os 9 .any (Rows.simplifyFollowsSpec.pre6 enc Try.prog Try.f9 Rows.simplifyFollowsRow.domain false) (Rows.simplifyFollowsSpec.post enc Try.prog Try.f9 false true false false) := by
  refine returnsInHanded_of_change_sized (C := Try.checked) own0 started (by kernel_rfl) Try.func9
    (ChangeSpec.witness6 (enc := enc) (C := Try.checked) false ⟨#[], #[Value.agg #[Value.slice none 0 0, Value.slice none 0 0, Value.slice none 0 0, Value.slice none 0 0, Value.slice none 0 0], Value.slice none 0 0], []⟩ 8 (by kernel_rfl) (by kernel_rfl) (by kernel_rfl) (by kernel_rfl)) ?_
  intro W base args ds gs before hval0 hW hcnd hwt _
  have hval : ∀ (j : Nat) t v, Try.f9.params[j]? = some t → args[j]? = some v → Value.okWide Try.prog W .any base t v := hval0
  have hW' := hW
  obtain ⟨p, q, hA0, hV, rfl, hfz, hnd⟩ := hW
  have hA : DataW.TrodAll enc Try.prog W 0 (fun _ => true) true Try.f9.params.toList args.toList ds p := hA0
  rw [Try.params9] at hA hval
  obtain ⟨v0, v1, d0, d1, p0, p1, rfl, rfl, rfl, h0, h1⟩ := trodAll_two hA
  obtain ⟨rfl, rfl⟩ := trodVars_none hV
  simp only [List.append_nil] at hW'
  rw [Try.params9] at hwt
  simp only [DataW.weightsEach, List.cons_append, List.nil_append, List.all_append, Bool.and_eq_true] at hwt
  have hlt : ∀ x ∈ p0 ++ p1, x.block < W.heap.size := fun x hx => by simpa using hW'.lt x hx
  obtain ⟨x0, b0, w0⟩ := arg_aggW opens28 (.inl ⟨_, Try.underlying28⟩) rfl (hval 0 28 v0 rfl rfl) h0 hwt.1
  have e0 := encGround_val.1 b0
  obtain ⟨u0_0, u0_1, u0_2, u0_3, u0_4, rfl, r0_0, r0_1, r0_2, r0_3, r0_4⟩ := e0
  obtain ⟨x1, a1, l1, w1⟩ := arg_slice (E := (encInt .u8)) Try.underlying67 (by kernel_rfl) (Opens.int Try.underlying5) (hval 1 67 v1 rfl rfl) h1
  refine (law19_SimplifyFollows_sim ((Classical.choose_spec (simplifyFollows_ok (lenG_ofW w0) (roomT_ofW w0) (fun x hx => wf_u8 (w1 x hx))))) (St.start W) r0_0 r0_1 r0_2 r0_3 r0_4 a1).mono ?_
  rintro _ W' ⟨_, rfl, s', hle, hS', rfl⟩
  have hb := below_of_St hS' hle
  exact ⟨_, rfl, ⟨_, _, _, [], _, [], hW', trodAll_mk1 (shut_bool Try.underlying4 true),
    trodAll_mk2 (Below.trod laid0 (by kernel_rfl) (of_decide_eq_true (by kernel_rfl)) h0 hb fun x hx => hlt x (by simp [hx])) (Below.trod laid0 (by kernel_rfl) (of_decide_eq_true (by kernel_rfl)) h1 hb fun x hx => hlt x (by simp [hx])), rfl, hb.frame _, fun h => by cases h⟩⟩
theorem said0 : Rows.SimplifyFollowsSaid :=
  OpenClaim.holds_of_wide 9 Try.f9 rfl rfl rfl rfl rfl rfl rfl ⟨rfl, rfl, rfl, rfl, rfl⟩ rfl rfl rfl rfl rfl (by kernel_rfl) Try.func9 (by kernel_rfl)
    (of_decide_eq_true (by kernel_rfl)) (by unfold Func.isWrapper; first | (rw [if_pos (by decide +kernel)]; kernel_rfl) | (rw [if_neg (by decide +kernel)]; exact ⟨rfl, rfl⟩))
    (fun os started H enc _ => lifted0 os started H enc)
end Go.Pw
namespace Go.Proofs.Ytkfcbmecmdpilaa
theorem simplifyFollows_holds : Rows.SimplifyFollowsSaid := Go.Pw.said0
end Go.Proofs.Ytkfcbmecmdpilaa
