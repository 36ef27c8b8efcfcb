/- -/
import Derived.Test.YtfcmpbkafbhdgaaGreatDoorLB
import Derived.Test.YtfcmpbkafbhdgaaGreatDoorWc10
import Derived.Test.YtfcmpbkafbhdgaaGreatDoorWcTf
import Derived.Test.YtfcmpbkafbhdgaaGreatDoorTie
import Derived.Test.YtfcmpbkafbhdgaaGreatDoorCards
import Derived.LaidMore
import Derived.MakeChecks
import Derived.Lib.LaidTab
import Derived.Lib.LaidU8
import Derived.SevenTiedAt
namespace Go.Pw
open Go.Proofs Go.Proofs.YtfcmpbkafbhdgaaGreatDoor Go.ChangeShapes Go.WideShapes Go.ChangeAt Go.RowKit
theorem own0 : ownKnob Tryz.prog.godebug = none := by kernel_rfl
theorem Qmx : laidOutB Tryz.prog = true := by kernel_rfl
theorem QgR : Opens Tryz.prog 52 encFact (fun b => ((Lit.int .i64 b.Var).wf = true) ∧ ((Lit.int .i64 b.Val).wf = true)) :=
 Opens.struct (fun t => ⟨t.1, t.2⟩) Tryz.underlying52 (by kernel_rfl) (fun _ => rfl)
  (FOpens.cons rfl (by kernel_rfl) (Opens.int Tryz.underlying3) rfl (FOpens.one rfl (by kernel_rfl) (Opens.int Tryz.underlying3)))
theorem QkY : Opens Tryz.prog 50 encEffect (fun b => (b.When.length ≤ maxLen ∧ ∀ y23 ∈ b.When, ((Lit.int .i64 y23.Var).wf = true) ∧ ((Lit.int .i64 y23.Val).wf = true)) ∧ ((Lit.int .i64 b.Var).wf = true) ∧ ((Lit.int .i64 b.Val).wf = true)) :=
 Opens.struct (fun t => ⟨t.1, t.2.1, t.2.2⟩) Tryz.underlying50 (by kernel_rfl) (fun _ => rfl)
  (FOpens.cons rfl (by kernel_rfl) (Opens.slice Tryz.underlying23 (by kernel_rfl) QgR) rfl (FOpens.cons rfl (by kernel_rfl) (Opens.int Tryz.underlying3) rfl (FOpens.one rfl (by kernel_rfl) (Opens.int Tryz.underlying3))))
theorem QkZ : Opens Tryz.prog 48 encOp (fun b => (b.Name.size ≤ maxLen) ∧ ((Lit.int .i64 b.Cost).wf = true) ∧ (b.Pre.length ≤ maxLen ∧ ∀ y23 ∈ b.Pre, ((Lit.int .i64 y23.Var).wf = true) ∧ ((Lit.int .i64 y23.Val).wf = true)) ∧ (b.Effs.length ≤ maxLen ∧ ∀ y46 ∈ b.Effs, (y46.When.length ≤ maxLen ∧ ∀ y23 ∈ y46.When, ((Lit.int .i64 y23.Var).wf = true) ∧ ((Lit.int .i64 y23.Val).wf = true)) ∧ ((Lit.int .i64 y46.Var).wf = true) ∧ ((Lit.int .i64 y46.Val).wf = true))) :=
 Opens.struct (fun t => ⟨t.1, t.2.1, t.2.2.1, t.2.2.2⟩) Tryz.underlying48 (by kernel_rfl) (fun _ => rfl)
  (FOpens.cons rfl (by kernel_rfl) (Qj7 Tryz.underlying9) rfl (FOpens.cons rfl (by kernel_rfl) (Opens.int Tryz.underlying3) rfl (FOpens.cons rfl (by kernel_rfl) (Opens.slice Tryz.underlying23 (by kernel_rfl) QgR) rfl (FOpens.one rfl (by kernel_rfl) (Opens.slice Tryz.underlying46 (by kernel_rfl) QkY)))))
theorem Qla : Opens Tryz.prog 26 encTask (fun b => (b.Vars.length ≤ maxLen ∧ ∀ y22 ∈ b.Vars, (Lit.int .i64 y22).wf = true) ∧ (b.Init.length ≤ maxLen ∧ ∀ y22 ∈ b.Init, (Lit.int .i64 y22).wf = true) ∧ (b.Goal.length ≤ maxLen ∧ ∀ y23 ∈ b.Goal, ((Lit.int .i64 y23.Var).wf = true) ∧ ((Lit.int .i64 y23.Val).wf = true)) ∧ (b.Ops.length ≤ maxLen ∧ ∀ y24 ∈ b.Ops, (y24.Name.size ≤ maxLen) ∧ ((Lit.int .i64 y24.Cost).wf = true) ∧ (y24.Pre.length ≤ maxLen ∧ ∀ y23 ∈ y24.Pre, ((Lit.int .i64 y23.Var).wf = true) ∧ ((Lit.int .i64 y23.Val).wf = true)) ∧ (y24.Effs.length ≤ maxLen ∧ ∀ y46 ∈ y24.Effs, (y46.When.length ≤ maxLen ∧ ∀ y23 ∈ y46.When, ((Lit.int .i64 y23.Var).wf = true) ∧ ((Lit.int .i64 y23.Val).wf = true)) ∧ ((Lit.int .i64 y46.Var).wf = true) ∧ ((Lit.int .i64 y46.Val).wf = true)))) :=
 Opens.struct (fun t => ⟨t.1, t.2.1, t.2.2.1, t.2.2.2⟩) Tryz.underlying26 (by kernel_rfl) (fun _ => rfl)
  (FOpens.cons rfl (by kernel_rfl) (Opens.slice Tryz.underlying22 (by kernel_rfl) (Opens.int Tryz.underlying3)) rfl (FOpens.cons rfl (by kernel_rfl) (Opens.slice Tryz.underlying22 (by kernel_rfl) (Opens.int Tryz.underlying3)) rfl (FOpens.cons rfl (by kernel_rfl) (Opens.slice Tryz.underlying23 (by kernel_rfl) QgR) rfl (FOpens.one rfl (by kernel_rfl) (Opens.slice Tryz.underlying24 (by kernel_rfl) QkZ)))))
theorem QmS {W : World} (h : laidMetH Tryz.prog Rows.wholeCertificateRow.laid W) : Lib.TabIs Tryz.prog W "internal/strconv.uint64pow10" .u64 Lib.pow10Tab := by
 rw [MakeChecks.laidMetH_plain _ _ _ (by kernel_rfl)] at h
 obtain ⟨ps, ⟨g0, t0, cs0, f0, p0, q0, _, _, _, _, ⟨g1, t1, cs1, f1, p1, q1, _, _, _, _, ⟨g2, t2, cs2, f2, p2, q2, hg, ht, hv, hd, _, _⟩, _⟩, _⟩, _⟩ := h
 obtain rfl := Option.some.inj ((show Tryz.prog.globalNamed "internal/strconv.uint64pow10" = some 0 by kernel_rfl).symm.trans hg)
 obtain rfl := Option.some.inj ((show (Tryz.prog.globals[0]?).map (·.type) = some 201 by kernel_rfl).symm.trans ht)
 unfold Lib.TabIs
 rw [hv, ← Lib.cells_of_tab (k := .u64) (zs := Lib.pow10Tab) Tryz.underlying201 (by kernel_rfl) (by kernel_rfl) (by kernel_rfl) hd]
noncomputable def Qlw (os : Os) : World :=
 let w0 := World.doorLaid Tryz.prog 400 os
 { w0 with heap := w0.heap.modify 2 fun
  | .cells _ t frozen => .cells (Lib.firstTab.map fun z => Value.int .u8 z).toArray t frozen
  | o => o }
set_option maxRecDepth 1000000 in
theorem Qm0 (os : Os) (args : Array Value) : laidMetH Tryz.prog Rows.wholeCertificateRow.laid ((Qlw os).forCall (fun _ _ => 0) ⟨#[], args, []⟩).memory :=
 laidMetH_of_parts3 (fuel := 65) (laidMet_of_run' 65 (by kernel_rfl) (by kernel_rfl)) (by kernel_rfl) (by kernel_rfl)
set_option maxRecDepth 100000 in
theorem Qlc (os : Os) (started : os.Started) (H : Type) (enc : TypeId × Value → H) :
  ReturnsInHanded {} Tryz.checked os 3 .any (fun w args => (Rows.wholeCertificateSpec.pre enc Tryz.prog Tryz.f3 [] false w args ∧ laidMetH Tryz.prog Rows.wholeCertificateRow.laid w) ∧ sizedMet enc Tryz.prog Tryz.f3 (OpenSpec.ofChange Rows.wholeCertificateSpec) false w args)
   (Rows.wholeCertificateSpec.post enc Tryz.prog Tryz.f3 false true false false) := by
 refine returnsInHanded_of_change_and (C := Tryz.checked) (X := fun w _ => laidMetH Tryz.prog Rows.wholeCertificateRow.laid w) (fun _ _ _ hh h => h.of_heap hh) own0 started (by kernel_rfl) Tryz.func3
  (ChangeSpec.witness_shaped (enc := enc) (C := Tryz.checked) (os := os) (X := fun w _ => laidMetH Tryz.prog Rows.wholeCertificateRow.laid w) false (Qlw os) #[Value.agg #[Value.slice none 0 0, Value.slice none 0 0, Value.slice none 0 0, Value.slice none 0 0]] 8 rfl (World.shaped_of_RefB (by kernel_rfl) (by kernel_rfl)) (by kernel_rfl) (by kernel_rfl) (by kernel_rfl) (Qm0 os _)) ?_
 intro W base args ds gs before hval0 hW hcnd _ hL _
 have hval : ∀ (j : Nat) t v, Tryz.f3.params[j]? = some t → args[j]? = some v → Value.okWide Tryz.prog W .any base t v := hval0
 have hW' := hW
 obtain ⟨p, q, hA0, hV, rfl, hfz, hnd⟩ := hW
 have hA : DataW.TrodAll enc Tryz.prog W 0 (fun _ => true) true Tryz.f3.params.toList args.toList ds p := hA0
 rw [Tryz.params3] at hA hval
 obtain ⟨v0, d0, rfl, rfl, h0⟩ := trodAll_one hA
 obtain ⟨rfl, rfl⟩ := trodVars_none hV
 simp only [List.append_nil] at hW'
 have hlt : ∀ x ∈ p, x.block < W.heap.size := fun x hx => by simpa using hW'.lt x hx
 obtain ⟨x0, b0, w0⟩ := Qlo Qla (.inl ⟨_, Tryz.underlying26⟩) rfl (hval 0 26 v0 rfl rfl) h0
 have e0 := QhS.1 b0
 obtain ⟨u0_0, u0_1, u0_2, u0_3, rfl, r0_0, r0_1, r0_2, r0_3⟩ := e0
 refine (YN (Qji 99 x0 (by decide)) (Qfv W) r0_0 r0_1 r0_2 r0_3 (Qi4 (QmS hL))).mono ?_
 rintro _ W' ⟨_, rfl, s', hle, hS', rfl⟩
 have hb := QhX hS' hle
 exact ⟨_, Z, ⟨_, _, _, [], _, [], hW', trodAll_mk1 (shut_bool Tryz.underlying4 true),
  trodAll_mk1 (Below.trod Qmx (by kernel_rfl) (of_decide_eq_true (by kernel_rfl)) h0 hb fun x hx => hlt x (by simp [hx])), rfl, hb.frame _, fun h => by cases h⟩⟩
theorem said0 : Rows.WholeCertificateSaid :=
 OpenClaim.holds_of_wide 3 Tryz.f3 rfl rfl rfl rfl rfl rfl rfl ⟨rfl, rfl, rfl, rfl, rfl⟩ rfl rfl rfl rfl rfl (by kernel_rfl) Tryz.func3 (by kernel_rfl)
  (of_decide_eq_true (by kernel_rfl)) (by unfold Func.isWrapper; first | (rw [if_pos (by decide +kernel)]; kernel_rfl) | (rw [if_neg (by decide +kernel)]; exact ⟨rfl, rfl⟩))
  (fun os started H enc _ => Qlc os started H enc)
end Go.Pw
namespace Go.Proofs.YtfcmpbkafbhdgaaGreatDoor
theorem wholeCertificate_holds : Rows.WholeCertificateCardSaid :=
 Claim7.holds_tied_plain_at .later [] [.data, .data, .data, .data, .pinned] true (true, "5089d655c136386095d8c59a8024eace516d1910f0dffdd0a1f57184a0a7f668") true Go.Pw.said0 (fun _ h => by cases h) (by kernel_rfl) (fun _ h => by cases h) wholeCertificate_row_tie rfl ⟨rfl, rfl⟩ (by kernel_rfl) rfl
  (fun f fn hf hfn => by
   obtain rfl : f = 3 := Option.some.inj ((show Tryz.prog.funcNamed "stratagem/stratagemtop.WholeCertificate" = some 3 by kernel_rfl).symm.trans hf) |>.symm
   obtain rfl : fn = Tryz.f3 := (Option.some.inj (Tryz.func3.symm.trans hfn)).symm
   exact ⟨by kernel_rfl, fun j t ht => by
    rw [Tryz.params3] at ht
    have hm : t ∈ [26] := by simpa using Array.mem_of_getElem? ht
    have hall : ([26].all fun u => !Tryz.prog.wantsStandIn u) = true := by kernel_rfl
    exact (show Tryz.prog.wantsStandIn t = false by simpa using List.all_eq_true.1 hall t hm)⟩)
  (by kernel_rfl)
end Go.Proofs.YtfcmpbkafbhdgaaGreatDoor
