/-
  ShrinkExact returns true for every input, and the input reads as it did, where the listed package-level variables hold what the program's text lays into them (the card ties them): no other condition.
-/
import Derived.Test.YtagooehmocpcjaaDoorL7
import Derived.Test.YtagooehmocpcjaaDoorEx7
import Derived.Test.YtagooehmocpcjaaDoorExKE
import Derived.Test.YtagooehmocpcjaaDoorTie
import Derived.Test.YtagooehmocpcjaaDoorCards
import Derived.LaidMore
import Derived.MakeChecks
import Derived.Lib.LaidTab
import Derived.SevenTiedAt
namespace Go.Pw
open Go.Proofs Go.Proofs.YtagooehmocpcjaaDoor Go.ChangeShapes Go.WideShapes Go.ChangeAt Go.RowKit

theorem own0 : ownKnob Tryd.prog.godebug = none := by kernel_rfl
theorem laid0 : laidOutB Tryd.prog = true := by kernel_rfl
theorem opens53 : Opens Tryd.prog 53 encEdge (fun b => ((Lit.int .i64 b.From).wf = true) ∧ ((Lit.int .i64 b.Label).wf = true) ∧ ((Lit.int .i64 b.To).wf = true)) :=
  Opens.struct (fun t => ⟨t.1, t.2.1, t.2.2⟩) Tryd.underlying53 (by kernel_rfl) (fun _ => rfl)
    (FOpens.cons rfl (by kernel_rfl) (Opens.int Tryd.underlying3) rfl (FOpens.cons rfl (by kernel_rfl) (Opens.int Tryd.underlying3) rfl (FOpens.one rfl (by kernel_rfl) (Opens.int Tryd.underlying3))))

theorem opens26 : Opens Tryd.prog 26 encSystem (fun b => ((Lit.int .i64 b.States).wf = true) ∧ ((Lit.int .i64 b.Init).wf = true) ∧ (b.Costs.length ≤ maxLen ∧ ∀ y22 ∈ b.Costs, (Lit.int .i64 y22).wf = true) ∧ (b.Edges.length ≤ maxLen ∧ ∀ y23 ∈ b.Edges, ((Lit.int .i64 y23.From).wf = true) ∧ ((Lit.int .i64 y23.Label).wf = true) ∧ ((Lit.int .i64 y23.To).wf = true)) ∧ (b.Goals.length ≤ maxLen ∧ ∀ y24 ∈ b.Goals, True)) :=
  Opens.struct (fun t => ⟨t.1, t.2.1, t.2.2.1, t.2.2.2.1, t.2.2.2.2⟩) Tryd.underlying26 (by kernel_rfl) (fun _ => rfl)
    (FOpens.cons rfl (by kernel_rfl) (Opens.int Tryd.underlying3) rfl (FOpens.cons rfl (by kernel_rfl) (Opens.int Tryd.underlying3) rfl (FOpens.cons rfl (by kernel_rfl) (Opens.slice Tryd.underlying22 (by kernel_rfl) (Opens.int Tryd.underlying3)) rfl (FOpens.cons rfl (by kernel_rfl) (Opens.slice Tryd.underlying23 (by kernel_rfl) opens53) rfl (FOpens.one rfl (by kernel_rfl) (Opens.slice Tryd.underlying24 (by kernel_rfl) (Opens.bool Tryd.underlying4)))))))

theorem tab0 {W : World} (h : laidMetH Tryd.prog Rows.shrinkExactRow.laid W) : Lib.TabIs Tryd.prog W "internal/strconv.uint64pow10" .u64 Lib.pow10Tab := by
  rw [MakeChecks.laidMetH_plain _ _ _ (by kernel_rfl)] at h
  obtain ⟨ps, ⟨g0, t0, cs0, f0, p0, q0, _, _, _, _, ⟨g1, t1, cs1, f1, p1, q1, _, _, _, _, ⟨g2, t2, cs2, f2, p2, q2, hg, ht, hv, hd, _, _⟩, _⟩, _⟩, _⟩ := h
  obtain rfl := Option.some.inj ((show Tryd.prog.globalNamed "internal/strconv.uint64pow10" = some 0 by kernel_rfl).symm.trans hg)
  obtain rfl := Option.some.inj ((show (Tryd.prog.globals[0]?).map (·.type) = some 142 by kernel_rfl).symm.trans ht)
  unfold Lib.TabIs
  rw [hv, ← Lib.cells_of_tab (k := .u64) (zs := Lib.pow10Tab) Tryd.underlying142 (by kernel_rfl) (by kernel_rfl) (by kernel_rfl) hd]
theorem door0 (os : Os) (args : Array Value) : laidMetH Tryd.prog Rows.shrinkExactRow.laid ((World.doorLaid Tryd.prog 400 os).forCall (fun _ _ => 0) ⟨#[], args, []⟩).memory :=
  laidMetH_of_parts3 (fuel := 65) (laidMet_of_run' 65 (by kernel_rfl) (by kernel_rfl)) (by kernel_rfl) (by kernel_rfl)
set_option maxRecDepth 100000 in
theorem lifted0 (os : Os) (started : os.Started) (H : Type) (enc : TypeId × Value → H) :
    ReturnsInHanded {} Tryd.checked os 9 .any (fun w args => (Rows.shrinkExactSpec.pre enc Tryd.prog Tryd.f9 [] false w args ∧ laidMetH Tryd.prog Rows.shrinkExactRow.laid w) ∧ sizedMet enc Tryd.prog Tryd.f9 (OpenSpec.ofChange Rows.shrinkExactSpec) false w args)
      (Rows.shrinkExactSpec.post enc Tryd.prog Tryd.f9 false true false false) := by
  refine returnsInHanded_of_change_and (C := Tryd.checked) (X := fun w _ => laidMetH Tryd.prog Rows.shrinkExactRow.laid w) (fun _ _ _ hh h => h.of_heap hh) own0 started (by kernel_rfl) Tryd.func9
    (ChangeSpec.witness_shaped (enc := enc) (C := Tryd.checked) (os := os) (X := fun w _ => laidMetH Tryd.prog Rows.shrinkExactRow.laid w) false (World.doorLaid Tryd.prog 400 os) #[Value.slice none 0 0, Value.int .i64 (0)] 8 rfl (World.shaped_of_RefB (by kernel_rfl) (by kernel_rfl)) (by kernel_rfl) (by kernel_rfl) (by kernel_rfl) (door0 os _)) ?_
  intro W base args ds gs before hval0 hW hcnd _ hL _
  have hval : ∀ (j : Nat) t v, Tryd.f9.params[j]? = some t → args[j]? = some v → Value.okWide Tryd.prog W .any base t v := hval0
  have hW' := hW
  obtain ⟨p, q, hA0, hV, rfl, hfz, hnd⟩ := hW
  have hA : DataW.TrodAll enc Tryd.prog W 0 (fun _ => true) true Tryd.f9.params.toList args.toList ds p := hA0
  rw [Tryd.params9] at hA hval
  obtain ⟨v0, v1, d0, d1, p0, p1, rfl, rfl, rfl, h0, h1⟩ := trodAll_two hA
  obtain ⟨rfl, rfl⟩ := trodVars_none hV
  simp only [List.append_nil] at hW'
  have hlt : ∀ x ∈ p0 ++ p1, x.block < W.heap.size := fun x hx => by simpa using hW'.lt x hx
  obtain ⟨x0, a0, l0, w0⟩ := arg_slice (E := encSystem) Tryd.underlying40 (by kernel_rfl) opens26 (hval 0 40 v0 rfl rfl) h0
  obtain ⟨x1, rfl, w1⟩ := arg_int Tryd.underlying3 (hval 1 3 v1 rfl rfl) h1
  refine (law45_ShrinkExact_sim ((exact_law x0 x1)) (St.start W) a0 (TabS.start (tab0 hL))).mono ?_
  rintro _ W' ⟨_, rfl, s', hle, hS', rfl⟩
  have hb := below_of_St hS' hle
  exact ⟨_, rfl, ⟨_, _, _, [], _, [], hW', trodAll_mk1 (shut_bool Tryd.underlying4 true),
    trodAll_mk2 (Below.trod laid0 (by kernel_rfl) (of_decide_eq_true (by kernel_rfl)) h0 hb fun x hx => hlt x (by simp [hx])) (Below.trod laid0 (by kernel_rfl) (of_decide_eq_true (by kernel_rfl)) h1 hb fun x hx => hlt x (by simp [hx])), rfl, hb.frame _, fun h => by cases h⟩⟩

theorem said0 : Rows.ShrinkExactSaid :=
  OpenClaim.holds_of_wide 9 Tryd.f9 rfl rfl rfl rfl rfl rfl rfl ⟨rfl, rfl, rfl, rfl, rfl⟩ rfl rfl rfl rfl rfl (by kernel_rfl) Tryd.func9 (by kernel_rfl)
    (of_decide_eq_true (by kernel_rfl)) (by unfold Func.isWrapper; first | (rw [if_pos (by decide +kernel)]; kernel_rfl) | (rw [if_neg (by decide +kernel)]; exact ⟨rfl, rfl⟩))
    (fun os started H enc _ => lifted0 os started H enc)
end Go.Pw
namespace Go.Proofs.YtagooehmocpcjaaDoor
theorem shrinkExact_holds : Rows.ShrinkExactCardSaid :=
  Claim7.holds_tied_plain_at .later [] [.data, .data, .data] true (true, "78030927d3c7e4e06901cebf75a016173f28c27cd07636a35a5a82bcd5c33672") true Go.Pw.said0 (fun _ h => by cases h) (by kernel_rfl) (fun _ h => by cases h) shrinkExact_row_tie rfl ⟨rfl, rfl⟩ (by kernel_rfl) rfl
    (fun f fn hf hfn => by
      obtain rfl : f = 9 := Option.some.inj ((show Tryd.prog.funcNamed "stratagem/stratagemlaw45.ShrinkExact" = some 9 by kernel_rfl).symm.trans hf) |>.symm
      obtain rfl : fn = Tryd.f9 := (Option.some.inj (Tryd.func9.symm.trans hfn)).symm
      exact ⟨by kernel_rfl, fun j t ht => by
        rw [Tryd.params9] at ht
        have hm : t ∈ [40, 3] := by simpa using Array.mem_of_getElem? ht
        have hall : ([40, 3].all fun u => !Tryd.prog.wantsStandIn u) = true := by kernel_rfl
        exact (show Tryd.prog.wantsStandIn t = false by simpa using List.all_eq_true.1 hall t hm)⟩)
    (by kernel_rfl)
end Go.Proofs.YtagooehmocpcjaaDoor
