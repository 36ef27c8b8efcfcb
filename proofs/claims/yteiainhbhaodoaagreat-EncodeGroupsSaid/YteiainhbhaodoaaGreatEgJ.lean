/- -/
import Derived.Test.YteiainhbhaodoaaGreatL7
import Derived.Test.YteiainhbhaodoaaGreatL32
import Derived.Test.YteiainhbhaodoaaGreatEg8
import Derived.Test.YteiainhbhaodoaaGreatEgPx
import Derived.Test.YteiainhbhaodoaaGreatRows
namespace Go.Pw
open Go.Proofs Go.Proofs.YteiainhbhaodoaaGreat Go.ChangeShapes Go.WideShapes Go.ChangeAt Go.RowKit
theorem own0 : ownKnob Tryz.prog.godebug = none := by kernel_rfl
theorem Qka : laidOutB Tryz.prog = true := by kernel_rfl
theorem QhH : Opens Tryz.prog 72 encAtom (fun b => (b.Name.size ≤ maxLen) ∧ (b.Args.length ≤ maxLen ∧ ∀ y70 ∈ b.Args, y70.size ≤ maxLen)) :=
 Opens.struct (fun t => ⟨t.1, t.2⟩) Tryz.underlying72 (by kernel_rfl) (fun _ => rfl)
  (FOpens.cons rfl (by kernel_rfl) (QbG Tryz.underlying9) rfl (FOpens.one rfl (by kernel_rfl) (Opens.slice Tryz.underlying70 (by kernel_rfl) (QbG Tryz.underlying9))))
theorem QjE : Opens Tryz.prog 74 encGFluent (fun b => ((b.Fluent.Name.size ≤ maxLen) ∧ (b.Fluent.Args.length ≤ maxLen ∧ ∀ y70 ∈ b.Fluent.Args, y70.size ≤ maxLen)) ∧ ((Lit.int .i64 b.Lo).wf = true) ∧ ((Lit.int .i64 b.Hi).wf = true) ∧ ((Lit.int .i64 b.Init).wf = true)) :=
 Opens.struct (fun t => ⟨t.1, t.2.1, t.2.2.1, t.2.2.2⟩) Tryz.underlying74 (by kernel_rfl) (fun _ => rfl)
  (FOpens.cons rfl (by kernel_rfl) QhH rfl (FOpens.cons rfl (by kernel_rfl) (Opens.int Tryz.underlying3) rfl (FOpens.cons rfl (by kernel_rfl) (Opens.int Tryz.underlying3) rfl (FOpens.one rfl (by kernel_rfl) (Opens.int Tryz.underlying3)))))
theorem QeQ : Opens Tryz.prog 106 encGExpr WFE :=
 Qi8 fun N ih => Qf1 YZ (OpensB.mono (OpensB.struct (fun t => ⟨t.1, t.2.1, t.2.2⟩) Tryz.underlying106 (by kernel_rfl) (fun _ => rfl)
  (FOpensB.cons rfl (by kernel_rfl) (QfI (QbG Tryz.underlying9)) rfl (FOpensB.cons rfl (by kernel_rfl) (QfI (Opens.int Tryz.underlying3)) rfl (FOpensB.one rfl (by kernel_rfl) (OpensB.mono (OpensB.slice Tryz.underlying104 (by kernel_rfl) ih) (Nat.le_succ N) (fun _ h => h)))))) (Nat.le_refl _) (fun a h => by cases a; exact WFE.mk h.2.2.1 h.2.2.2))
theorem Qjj : Opens Tryz.prog 128 encGTest (fun b => (b.Op.size ≤ maxLen) ∧ (WFE b.A) ∧ (WFE b.B)) :=
 Opens.struct (fun t => ⟨t.1, t.2.1, t.2.2⟩) Tryz.underlying128 (by kernel_rfl) (fun _ => rfl)
  (FOpens.cons rfl (by kernel_rfl) (QbG Tryz.underlying9) rfl (FOpens.cons rfl (by kernel_rfl) QeQ rfl (FOpens.one rfl (by kernel_rfl) QeQ)))
theorem QfV : Opens Tryz.prog 85 encCond (fun b => (b.Pos.length ≤ maxLen ∧ ∀ y22 ∈ b.Pos, (Lit.int .i64 y22).wf = true) ∧ (b.Neg.length ≤ maxLen ∧ ∀ y22 ∈ b.Neg, (Lit.int .i64 y22).wf = true) ∧ (b.Tests.length ≤ maxLen ∧ ∀ y83 ∈ b.Tests, (y83.Op.size ≤ maxLen) ∧ (WFE y83.A) ∧ (WFE y83.B))) :=
 Opens.struct (fun t => ⟨t.1, t.2.1, t.2.2⟩) Tryz.underlying85 (by kernel_rfl) (fun _ => rfl)
  (FOpens.cons rfl (by kernel_rfl) (Opens.slice Tryz.underlying22 (by kernel_rfl) (Opens.int Tryz.underlying3)) rfl (FOpens.cons rfl (by kernel_rfl) (Opens.slice Tryz.underlying22 (by kernel_rfl) (Opens.int Tryz.underlying3)) rfl (FOpens.one rfl (by kernel_rfl) (Opens.slice Tryz.underlying83 (by kernel_rfl) Qjj))))
theorem QjC : Opens Tryz.prog 97 encGChange (fun b => ((b.When.Pos.length ≤ maxLen ∧ ∀ y22 ∈ b.When.Pos, (Lit.int .i64 y22).wf = true) ∧ (b.When.Neg.length ≤ maxLen ∧ ∀ y22 ∈ b.When.Neg, (Lit.int .i64 y22).wf = true) ∧ (b.When.Tests.length ≤ maxLen ∧ ∀ y83 ∈ b.When.Tests, (y83.Op.size ≤ maxLen) ∧ (WFE y83.A) ∧ (WFE y83.B))) ∧ ((Lit.int .i64 b.Atom).wf = true) ∧ (True)) :=
 Opens.struct (fun t => ⟨t.1, t.2.1, t.2.2⟩) Tryz.underlying97 (by kernel_rfl) (fun _ => rfl)
  (FOpens.cons rfl (by kernel_rfl) QfV rfl (FOpens.cons rfl (by kernel_rfl) (Opens.int Tryz.underlying3) rfl (FOpens.one rfl (by kernel_rfl) (Opens.bool Tryz.underlying4))))
theorem Qjk : Opens Tryz.prog 108 encGAssign (fun b => ((Lit.int .i64 b.Fluent).wf = true) ∧ (WFE b.Value)) :=
 Opens.struct (fun t => ⟨t.1, t.2⟩) Tryz.underlying108 (by kernel_rfl) (fun _ => rfl)
  (FOpens.cons rfl (by kernel_rfl) (Opens.int Tryz.underlying3) rfl (FOpens.one rfl (by kernel_rfl) QeQ))
theorem QjD : Opens Tryz.prog 92 encGOp (fun b => (b.Name.size ≤ maxLen) ∧ ((Lit.int .i64 b.Cost).wf = true) ∧ ((b.Pre.Pos.length ≤ maxLen ∧ ∀ y22 ∈ b.Pre.Pos, (Lit.int .i64 y22).wf = true) ∧ (b.Pre.Neg.length ≤ maxLen ∧ ∀ y22 ∈ b.Pre.Neg, (Lit.int .i64 y22).wf = true) ∧ (b.Pre.Tests.length ≤ maxLen ∧ ∀ y83 ∈ b.Pre.Tests, (y83.Op.size ≤ maxLen) ∧ (WFE y83.A) ∧ (WFE y83.B))) ∧ (b.Changes.length ≤ maxLen ∧ ∀ y89 ∈ b.Changes, ((y89.When.Pos.length ≤ maxLen ∧ ∀ y22 ∈ y89.When.Pos, (Lit.int .i64 y22).wf = true) ∧ (y89.When.Neg.length ≤ maxLen ∧ ∀ y22 ∈ y89.When.Neg, (Lit.int .i64 y22).wf = true) ∧ (y89.When.Tests.length ≤ maxLen ∧ ∀ y83 ∈ y89.When.Tests, (y83.Op.size ≤ maxLen) ∧ (WFE y83.A) ∧ (WFE y83.B))) ∧ ((Lit.int .i64 y89.Atom).wf = true) ∧ (True)) ∧ (b.Assigns.length ≤ maxLen ∧ ∀ y90 ∈ b.Assigns, ((Lit.int .i64 y90.Fluent).wf = true) ∧ (WFE y90.Value))) :=
 Opens.struct (fun t => ⟨t.1, t.2.1, t.2.2.1, t.2.2.2.1, t.2.2.2.2⟩) Tryz.underlying92 (by kernel_rfl) (fun _ => rfl)
  (FOpens.cons rfl (by kernel_rfl) (QbG Tryz.underlying9) rfl (FOpens.cons rfl (by kernel_rfl) (Opens.int Tryz.underlying3) rfl (FOpens.cons rfl (by kernel_rfl) QfV rfl (FOpens.cons rfl (by kernel_rfl) (Opens.slice Tryz.underlying89 (by kernel_rfl) QjC) rfl (FOpens.one rfl (by kernel_rfl) (Opens.slice Tryz.underlying90 (by kernel_rfl) Qjk))))))
theorem QjF : Opens Tryz.prog 44 encGround (fun b => (b.Atoms.length ≤ maxLen ∧ ∀ y39 ∈ b.Atoms, (y39.Name.size ≤ maxLen) ∧ (y39.Args.length ≤ maxLen ∧ ∀ y70 ∈ y39.Args, y70.size ≤ maxLen)) ∧ (b.Fluents.length ≤ maxLen ∧ ∀ y40 ∈ b.Fluents, ((y40.Fluent.Name.size ≤ maxLen) ∧ (y40.Fluent.Args.length ≤ maxLen ∧ ∀ y70 ∈ y40.Fluent.Args, y70.size ≤ maxLen)) ∧ ((Lit.int .i64 y40.Lo).wf = true) ∧ ((Lit.int .i64 y40.Hi).wf = true) ∧ ((Lit.int .i64 y40.Init).wf = true)) ∧ (b.Init.length ≤ maxLen ∧ ∀ y22 ∈ b.Init, (Lit.int .i64 y22).wf = true) ∧ (b.Goal.length ≤ maxLen ∧ ∀ y41 ∈ b.Goal, (y41.Pos.length ≤ maxLen ∧ ∀ y22 ∈ y41.Pos, (Lit.int .i64 y22).wf = true) ∧ (y41.Neg.length ≤ maxLen ∧ ∀ y22 ∈ y41.Neg, (Lit.int .i64 y22).wf = true) ∧ (y41.Tests.length ≤ maxLen ∧ ∀ y83 ∈ y41.Tests, (y83.Op.size ≤ maxLen) ∧ (WFE y83.A) ∧ (WFE y83.B))) ∧ (b.Ops.length ≤ maxLen ∧ ∀ y42 ∈ b.Ops, (y42.Name.size ≤ maxLen) ∧ ((Lit.int .i64 y42.Cost).wf = true) ∧ ((y42.Pre.Pos.length ≤ maxLen ∧ ∀ y22 ∈ y42.Pre.Pos, (Lit.int .i64 y22).wf = true) ∧ (y42.Pre.Neg.length ≤ maxLen ∧ ∀ y22 ∈ y42.Pre.Neg, (Lit.int .i64 y22).wf = true) ∧ (y42.Pre.Tests.length ≤ maxLen ∧ ∀ y83 ∈ y42.Pre.Tests, (y83.Op.size ≤ maxLen) ∧ (WFE y83.A) ∧ (WFE y83.B))) ∧ (y42.Changes.length ≤ maxLen ∧ ∀ y89 ∈ y42.Changes, ((y89.When.Pos.length ≤ maxLen ∧ ∀ y22 ∈ y89.When.Pos, (Lit.int .i64 y22).wf = true) ∧ (y89.When.Neg.length ≤ maxLen ∧ ∀ y22 ∈ y89.When.Neg, (Lit.int .i64 y22).wf = true) ∧ (y89.When.Tests.length ≤ maxLen ∧ ∀ y83 ∈ y89.When.Tests, (y83.Op.size ≤ maxLen) ∧ (WFE y83.A) ∧ (WFE y83.B))) ∧ ((Lit.int .i64 y89.Atom).wf = true) ∧ (True)) ∧ (y42.Assigns.length ≤ maxLen ∧ ∀ y90 ∈ y42.Assigns, ((Lit.int .i64 y90.Fluent).wf = true) ∧ (WFE y90.Value)))) :=
 Opens.struct (fun t => ⟨t.1, t.2.1, t.2.2.1, t.2.2.2.1, t.2.2.2.2⟩) Tryz.underlying44 (by kernel_rfl) (fun _ => rfl)
  (FOpens.cons rfl (by kernel_rfl) (Opens.slice Tryz.underlying39 (by kernel_rfl) QhH) rfl (FOpens.cons rfl (by kernel_rfl) (Opens.slice Tryz.underlying40 (by kernel_rfl) QjE) rfl (FOpens.cons rfl (by kernel_rfl) (Opens.slice Tryz.underlying22 (by kernel_rfl) (Opens.int Tryz.underlying3)) rfl (FOpens.cons rfl (by kernel_rfl) (Opens.slice Tryz.underlying41 (by kernel_rfl) QfV) rfl (FOpens.one rfl (by kernel_rfl) (Opens.slice Tryz.underlying42 (by kernel_rfl) QjD))))))
set_option maxRecDepth 100000 in
theorem QjH (os : Os) (started : os.Started) (H : Type) (enc : TypeId × Value → H) :
  ReturnsInHanded {} Tryz.checked os 4 .any (Rows.encodeGroupsSpec.pre6 enc Tryz.prog Tryz.f4 Rows.encodeGroupsRow.domain false) (Rows.encodeGroupsSpec.post enc Tryz.prog Tryz.f4 false true false false) := by
 refine returnsInHanded_of_change (C := Tryz.checked) own0 started (by kernel_rfl) Tryz.func4
  (ChangeSpec.witness6 (enc := enc) (C := Tryz.checked) false ⟨#[], #[Value.agg #[Value.slice none 0 0, Value.slice none 0 0, Value.slice none 0 0, Value.slice none 0 0, Value.slice none 0 0], Value.slice none 0 0], []⟩ 8 (by kernel_rfl) (by kernel_rfl) (by kernel_rfl) (by kernel_rfl)) ?_
 intro W base args ds gs before hval0 hW hcnd _
 have hval : ∀ (j : Nat) t v, Tryz.f4.params[j]? = some t → args[j]? = some v → Value.okWide Tryz.prog W .any base t v := hval0
 have hW' := hW
 obtain ⟨p, q, hA0, hV, rfl, hfz, hnd⟩ := hW
 have hA : DataW.TrodAll enc Tryz.prog W 0 (fun _ => true) true Tryz.f4.params.toList args.toList ds p := hA0
 rw [Tryz.params4] at hA hval
 obtain ⟨v0, v1, d0, d1, p0, p1, rfl, rfl, rfl, h0, h1⟩ := trodAll_two hA
 obtain ⟨rfl, rfl⟩ := trodVars_none hV
 simp only [List.append_nil] at hW'
 have hlt : ∀ x ∈ p0 ++ p1, x.block < W.heap.size := fun x hx => by simpa using hW'.lt x hx
 obtain ⟨x0, b0, w0⟩ := QjS QjF (.inl ⟨_, Tryz.underlying44⟩) rfl (hval 0 44 v0 rfl rfl) h0
 have e0 := Yh.1 b0
 obtain ⟨u0_0, u0_1, u0_2, u0_3, u0_4, rfl, r0_0, r0_1, r0_2, r0_3, r0_4⟩ := e0
 obtain ⟨x1, a1, l1, w1⟩ := Qi7 (E := (Qc .i64)) Tryz.underlying22 (by kernel_rfl) (Opens.int Tryz.underlying3) (hval 1 22 v1 rfl rfl) h1
 refine (QbX (QdX x1 (QjI w0)) (QgB W) r0_0 r0_1 r0_2 r0_3 r0_4 a1).mono ?_
 rintro _ W' ⟨_, rfl, s', hle, hS', rfl⟩
 have hb := QgR hS' hle
 exact ⟨_, Z, ⟨_, _, _, [], _, [], hW', trodAll_mk1 (shut_bool Tryz.underlying4 true),
  trodAll_mk2 (Below.trod Qka (by kernel_rfl) (of_decide_eq_true (by kernel_rfl)) h0 hb fun x hx => hlt x (by simp [hx])) (Below.trod Qka (by kernel_rfl) (of_decide_eq_true (by kernel_rfl)) h1 hb fun x hx => hlt x (by simp [hx])), rfl, hb.frame _, fun h => by cases h⟩⟩
theorem said0 : Rows.EncodeGroupsSaid :=
 OpenClaim.holds_of_wide 4 Tryz.f4 rfl rfl rfl rfl rfl rfl rfl ⟨rfl, rfl, rfl, rfl, rfl⟩ rfl rfl rfl rfl rfl (by kernel_rfl) Tryz.func4 (by kernel_rfl)
  (of_decide_eq_true (by kernel_rfl)) (by unfold Func.isWrapper; first | (rw [if_pos (by decide +kernel)]; kernel_rfl) | (rw [if_neg (by decide +kernel)]; exact ⟨rfl, rfl⟩))
  (fun os started H enc _ => QjH os started H enc)
end Go.Pw
namespace Go.Proofs.YteiainhbhaodoaaGreat
theorem encodeGroups_holds : Rows.EncodeGroupsSaid := Go.Pw.said0
end Go.Proofs.YteiainhbhaodoaaGreat
