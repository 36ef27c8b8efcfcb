/- -/
import Derived.Test.YtjbjflndiajoiaaGreatDoorLB
import Derived.Test.YtjbjflndiajoiaaGreatDoorWa11
import Derived.Test.YtjbjflndiajoiaaGreatDoorWaTf
import Derived.Test.YtjbjflndiajoiaaGreatDoorTie
import Derived.Test.YtjbjflndiajoiaaGreatDoorCards
import Derived.LaidMore
import Derived.SevenTiedAt
namespace Go.Pw
open Go.Proofs Go.Proofs.YtjbjflndiajoiaaGreatDoor Go.ChangeShapes Go.WideShapes Go.ChangeAt Go.RowKit
theorem own0 : ownKnob Tryz.prog.godebug = none := by kernel_rfl
theorem Qnf : laidOutB Tryz.prog = true := by kernel_rfl
theorem Qjv : Opens Tryz.prog 36 encFact (fun b => ((Lit.int .i64 b.Var).wf = true) ∧ ((Lit.int .i64 b.Val).wf = true)) :=
 Opens.struct (fun t => ⟨t.1, t.2⟩) Tryz.underlying36 (by kernel_rfl) (fun _ => rfl)
  (FOpens.cons rfl (by kernel_rfl) (Opens.int Tryz.underlying3) rfl (FOpens.one rfl (by kernel_rfl) (Opens.int Tryz.underlying3)))
theorem QoG : Opens Tryz.prog 34 encEffect (fun b => (b.When.length ≤ maxLen ∧ ∀ y23 ∈ b.When, ((Lit.int .i64 y23.Var).wf = true) ∧ ((Lit.int .i64 y23.Val).wf = true)) ∧ ((Lit.int .i64 b.Var).wf = true) ∧ ((Lit.int .i64 b.Val).wf = true)) :=
 Opens.struct (fun t => ⟨t.1, t.2.1, t.2.2⟩) Tryz.underlying34 (by kernel_rfl) (fun _ => rfl)
  (FOpens.cons rfl (by kernel_rfl) (Opens.slice Tryz.underlying23 (by kernel_rfl) Qjv) rfl (FOpens.cons rfl (by kernel_rfl) (Opens.int Tryz.underlying3) rfl (FOpens.one rfl (by kernel_rfl) (Opens.int Tryz.underlying3))))
theorem QoH : Opens Tryz.prog 32 encOp (fun b => (b.Name.size ≤ maxLen) ∧ ((Lit.int .i64 b.Cost).wf = true) ∧ (b.Pre.length ≤ maxLen ∧ ∀ y23 ∈ b.Pre, ((Lit.int .i64 y23.Var).wf = true) ∧ ((Lit.int .i64 y23.Val).wf = true)) ∧ (b.Effs.length ≤ maxLen ∧ ∀ y30 ∈ b.Effs, (y30.When.length ≤ maxLen ∧ ∀ y23 ∈ y30.When, ((Lit.int .i64 y23.Var).wf = true) ∧ ((Lit.int .i64 y23.Val).wf = true)) ∧ ((Lit.int .i64 y30.Var).wf = true) ∧ ((Lit.int .i64 y30.Val).wf = true))) :=
 Opens.struct (fun t => ⟨t.1, t.2.1, t.2.2.1, t.2.2.2⟩) Tryz.underlying32 (by kernel_rfl) (fun _ => rfl)
  (FOpens.cons rfl (by kernel_rfl) (QmL Tryz.underlying9) rfl (FOpens.cons rfl (by kernel_rfl) (Opens.int Tryz.underlying3) rfl (FOpens.cons rfl (by kernel_rfl) (Opens.slice Tryz.underlying23 (by kernel_rfl) Qjv) rfl (FOpens.one rfl (by kernel_rfl) (Opens.slice Tryz.underlying30 (by kernel_rfl) QoG)))))
theorem QoI : Opens Tryz.prog 26 encTask (fun b => (b.Vars.length ≤ maxLen ∧ ∀ y22 ∈ b.Vars, (Lit.int .i64 y22).wf = true) ∧ (b.Init.length ≤ maxLen ∧ ∀ y22 ∈ b.Init, (Lit.int .i64 y22).wf = true) ∧ (b.Goal.length ≤ maxLen ∧ ∀ y23 ∈ b.Goal, ((Lit.int .i64 y23.Var).wf = true) ∧ ((Lit.int .i64 y23.Val).wf = true)) ∧ (b.Ops.length ≤ maxLen ∧ ∀ y24 ∈ b.Ops, (y24.Name.size ≤ maxLen) ∧ ((Lit.int .i64 y24.Cost).wf = true) ∧ (y24.Pre.length ≤ maxLen ∧ ∀ y23 ∈ y24.Pre, ((Lit.int .i64 y23.Var).wf = true) ∧ ((Lit.int .i64 y23.Val).wf = true)) ∧ (y24.Effs.length ≤ maxLen ∧ ∀ y30 ∈ y24.Effs, (y30.When.length ≤ maxLen ∧ ∀ y23 ∈ y30.When, ((Lit.int .i64 y23.Var).wf = true) ∧ ((Lit.int .i64 y23.Val).wf = true)) ∧ ((Lit.int .i64 y30.Var).wf = true) ∧ ((Lit.int .i64 y30.Val).wf = true)))) :=
 Opens.struct (fun t => ⟨t.1, t.2.1, t.2.2.1, t.2.2.2⟩) Tryz.underlying26 (by kernel_rfl) (fun _ => rfl)
  (FOpens.cons rfl (by kernel_rfl) (Opens.slice Tryz.underlying22 (by kernel_rfl) (Opens.int Tryz.underlying3)) rfl (FOpens.cons rfl (by kernel_rfl) (Opens.slice Tryz.underlying22 (by kernel_rfl) (Opens.int Tryz.underlying3)) rfl (FOpens.cons rfl (by kernel_rfl) (Opens.slice Tryz.underlying23 (by kernel_rfl) Qjv) rfl (FOpens.one rfl (by kernel_rfl) (Opens.slice Tryz.underlying24 (by kernel_rfl) QoH)))))
theorem Qqt (os : Os) (args : Array Value) : laidMetH Tryz.prog Rows.wholeAbstractionRow.laid ((World.doorLaid Tryz.prog 400 os).forCall (fun _ _ => 0) ⟨#[], args, []⟩).memory :=
 laidMetH_of_parts3 (fuel := 65) (laidMet_of_run' 65 (by kernel_rfl) (by kernel_rfl)) (by kernel_rfl) (by kernel_rfl)
set_option maxRecDepth 100000 in
theorem QoK (os : Os) (started : os.Started) (H : Type) (enc : TypeId × Value → H) :
  ReturnsInHanded {} Tryz.checked os 3 .any (fun w args => (Rows.wholeAbstractionSpec.pre enc Tryz.prog Tryz.f3 [] false w args ∧ laidMetH Tryz.prog Rows.wholeAbstractionRow.laid w) ∧ sizedMet enc Tryz.prog Tryz.f3 (OpenSpec.ofChange Rows.wholeAbstractionSpec) false w args)
   (Rows.wholeAbstractionSpec.post enc Tryz.prog Tryz.f3 false true false false) := by
 refine returnsInHanded_of_change_and (C := Tryz.checked) (X := fun w _ => laidMetH Tryz.prog Rows.wholeAbstractionRow.laid w) (fun _ _ _ hh h => h.of_heap hh) own0 started (by kernel_rfl) Tryz.func3
  (ChangeSpec.witness_shaped (enc := enc) (C := Tryz.checked) (os := os) (X := fun w _ => laidMetH Tryz.prog Rows.wholeAbstractionRow.laid w) false (World.doorLaid Tryz.prog 400 os) #[Value.agg #[Value.slice none 0 0, Value.slice none 0 0, Value.slice none 0 0, Value.slice none 0 0], Value.slice none 0 0, Value.int .u16 (0)] 8 rfl (World.shaped_of_RefB (by kernel_rfl) (by kernel_rfl)) (by kernel_rfl) (by kernel_rfl) (by kernel_rfl) (Qqt os _)) ?_
 intro W base args ds gs before hval0 hW hcnd hwt hL _
 have hval : ∀ (j : Nat) t v, Tryz.f3.params[j]? = some t → args[j]? = some v → Value.okWide Tryz.prog W .any base t v := hval0
 have hW' := hW
 obtain ⟨p, q, hA0, hV, rfl, hfz, hnd⟩ := hW
 have hA : DataW.TrodAll enc Tryz.prog W 0 (fun _ => true) true Tryz.f3.params.toList args.toList ds p := hA0
 rw [Tryz.params3] at hA hval
 obtain ⟨v0, v1, v2, d0, d1, d2, p0, p1, p2, rfl, rfl, rfl, h0, h1, h2⟩ := trodAll_three hA
 obtain ⟨rfl, rfl⟩ := trodVars_none hV
 simp only [List.append_nil] at hW'
 rw [Tryz.params3] at hwt
 simp only [DataW.weightsEach, List.cons_append, List.nil_append, List.all_append, Bool.and_eq_true] at hwt
 have hlt : ∀ x ∈ p0 ++ p1 ++ p2, x.block < W.heap.size := fun x hx => by simpa using hW'.lt x hx
 obtain ⟨x0, b0, w0⟩ := Qpd QoI (.inl ⟨_, Tryz.underlying26⟩) rfl (hval 0 26 v0 rfl rfl) h0
 have e0 := QkB.1 b0
 obtain ⟨u0_0, u0_1, u0_2, u0_3, rfl, r0_0, r0_1, r0_2, r0_3⟩ := e0
 obtain ⟨x1, a1, l1, w1⟩ := QmF (E := (U .i64)) Tryz.underlying22 (by kernel_rfl) (Opens.int Tryz.underlying3) (hval 1 22 v1 rfl rfl) h1
 obtain ⟨x2, rfl, w2⟩ := Qpc Tryz.underlying27 (hval 2 27 v2 rfl rfl) h2
 have m1 : x1.length * 8 ≤ 140737488351232 := Qon Tryz.underlying22 (by kernel_rfl) h1 hwt.2.1 a1
 refine (Qbc (Qme x0 x1 x2 m1 (QpH w2)) (QfC W) r0_0 r0_1 r0_2 r0_3 a1).mono ?_
 rintro _ W' ⟨_, rfl, s', hle, hS', rfl⟩
 have hb := QkH hS' hle
 exact ⟨_, Z, ⟨_, _, _, [], _, [], hW', trodAll_mk1 (shut_bool Tryz.underlying4 true),
  trodAll_mk3 (Below.trod Qnf (by kernel_rfl) (of_decide_eq_true (by kernel_rfl)) h0 hb fun x hx => hlt x (by simp [hx])) (Below.trod Qnf (by kernel_rfl) (of_decide_eq_true (by kernel_rfl)) h1 hb fun x hx => hlt x (by simp [hx])) (Below.trod Qnf (by kernel_rfl) (of_decide_eq_true (by kernel_rfl)) h2 hb fun x hx => hlt x (by simp [hx])), rfl, hb.frame _, fun h => by cases h⟩⟩
theorem said0 : Rows.WholeAbstractionSaid :=
 OpenClaim.holds_of_wide 3 Tryz.f3 rfl rfl rfl rfl rfl rfl rfl ⟨rfl, rfl, rfl, rfl, rfl⟩ rfl rfl rfl rfl rfl (by kernel_rfl) Tryz.func3 (by kernel_rfl)
  (of_decide_eq_true (by kernel_rfl)) (by unfold Func.isWrapper; first | (rw [if_pos (by decide +kernel)]; kernel_rfl) | (rw [if_neg (by decide +kernel)]; exact ⟨rfl, rfl⟩))
  (fun os started H enc _ => QoK os started H enc)
end Go.Pw
namespace Go.Proofs.YtjbjflndiajoiaaGreatDoor
theorem wholeAbstraction_holds : Rows.WholeAbstractionCardSaid :=
 Claim7.holds_tied_plain_at .later [] [.data, .data, .data] true (true, "1560a75fc28d7f1160adeeed6db36f262230000d4a79e87cf0657751953207b9") true Go.Pw.said0 (fun _ h => by cases h) (by kernel_rfl) (fun _ h => by cases h) wholeAbstraction_row_tie rfl ⟨rfl, rfl⟩ (by kernel_rfl) rfl
  (fun f fn hf hfn => by
   obtain rfl : f = 3 := Option.some.inj ((show Tryz.prog.funcNamed "stratagem/stratagemtop.WholeAbstraction" = some 3 by kernel_rfl).symm.trans hf) |>.symm
   obtain rfl : fn = Tryz.f3 := (Option.some.inj (Tryz.func3.symm.trans hfn)).symm
   exact ⟨by kernel_rfl, fun j t ht => by
    rw [Tryz.params3] at ht
    have hm : t ∈ [26, 22, 27] := by simpa using Array.mem_of_getElem? ht
    have hall : ([26, 22, 27].all fun u => !Tryz.prog.wantsStandIn u) = true := by kernel_rfl
    exact (show Tryz.prog.wantsStandIn t = false by simpa using List.all_eq_true.1 hall t hm)⟩)
  (by kernel_rfl)
end Go.Proofs.YtjbjflndiajoiaaGreatDoor
