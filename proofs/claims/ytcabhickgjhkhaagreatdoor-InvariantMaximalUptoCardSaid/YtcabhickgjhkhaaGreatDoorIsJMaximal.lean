/-
  InvariantMaximal returns true for every input of bulk at most 1048576 (every value and every letter counts, each time it is reached), and the input reads as it did, where the listed package-level variables hold what the program's text lays into them (the card ties them): no other condition.
-/
import Derived.Test.YtcabhickgjhkhaaGreatDoorL7
import Derived.Test.YtcabhickgjhkhaaGreatDoorOu
import Derived.Test.YtcabhickgjhkhaaGreatDoorL32
import Derived.Test.YtcabhickgjhkhaaGreatDoorIs8
import Derived.Test.YtcabhickgjhkhaaGreatDoorIsPv
import Derived.Test.YtcabhickgjhkhaaGreatDoorTie
import Derived.Test.YtcabhickgjhkhaaGreatDoorCards
import Derived.LaidMore
import Derived.Lib.LaidPrint
import Derived.Lib.LaidU8
import Derived.Lib.LaidSlice
import Derived.MakeChecks
import Derived.Lib.LaidTab
import Derived.SevenTiedAt
namespace Go.Pw
open Go.Lib (sliceData goPrintTabs firstData acceptData)
open Go.Proofs Go.Proofs.YtcabhickgjhkhaaGreatDoor Go.ChangeShapes Go.WideShapes Go.ChangeAt Go.RowKit
theorem own0 : ownKnob Tryz.prog.godebug = none := by kernel_rfl
theorem laid0 : laidOutB Tryz.prog = true := by kernel_rfl
theorem opens56 : Opens Tryz.prog 56 encAtom (fun b => (b.Name.size ≤ maxLen) ∧ (b.Args.length ≤ maxLen ∧ ∀ y54 ∈ b.Args, y54.size ≤ maxLen)) :=
  Opens.struct (fun t => ⟨t.1, t.2⟩) Tryz.underlying56 (by kernel_rfl) (fun _ => rfl)
    (FOpens.cons rfl (by kernel_rfl) (Opens.str Tryz.underlying9) rfl (FOpens.one rfl (by kernel_rfl) (Opens.slice Tryz.underlying54 (by kernel_rfl) (Opens.str Tryz.underlying9))))
theorem opens69 : Opens Tryz.prog 69 encGFluent (fun b => ((b.Fluent.Name.size ≤ maxLen) ∧ (b.Fluent.Args.length ≤ maxLen ∧ ∀ y54 ∈ b.Fluent.Args, y54.size ≤ maxLen)) ∧ ((Lit.int .i64 b.Lo).wf = true) ∧ ((Lit.int .i64 b.Hi).wf = true) ∧ ((Lit.int .i64 b.Init).wf = true)) :=
  Opens.struct (fun t => ⟨t.1, t.2.1, t.2.2.1, t.2.2.2⟩) Tryz.underlying69 (by kernel_rfl) (fun _ => rfl)
    (FOpens.cons rfl (by kernel_rfl) opens56 rfl (FOpens.cons rfl (by kernel_rfl) (Opens.int Tryz.underlying3) rfl (FOpens.cons rfl (by kernel_rfl) (Opens.int Tryz.underlying3) rfl (FOpens.one rfl (by kernel_rfl) (Opens.int Tryz.underlying3)))))
theorem opens102 : Opens Tryz.prog 102 encGExpr WFE :=
  Opens.fix fun N ih => OpensB.of_iff encGExpr_iff (OpensB.mono (OpensB.struct (fun t => ⟨t.1, t.2.1, t.2.2⟩) Tryz.underlying102 (by kernel_rfl) (fun _ => rfl)
    (FOpensB.cons rfl (by kernel_rfl) (Opens.toB (Opens.str Tryz.underlying9)) rfl (FOpensB.cons rfl (by kernel_rfl) (Opens.toB (Opens.int Tryz.underlying3)) rfl (FOpensB.one rfl (by kernel_rfl) (OpensB.mono (OpensB.slice Tryz.underlying100 (by kernel_rfl) ih) (Nat.le_succ N) (fun _ h => h)))))) (Nat.le_refl _) (fun a h => by cases a; exact WFE.mk h.2.2.1 h.2.2.2))
theorem opens104 : Opens Tryz.prog 104 encGTest (fun b => (b.Op.size ≤ maxLen) ∧ (WFE b.A) ∧ (WFE b.B)) :=
  Opens.struct (fun t => ⟨t.1, t.2.1, t.2.2⟩) Tryz.underlying104 (by kernel_rfl) (fun _ => rfl)
    (FOpens.cons rfl (by kernel_rfl) (Opens.str Tryz.underlying9) rfl (FOpens.cons rfl (by kernel_rfl) opens102 rfl (FOpens.one rfl (by kernel_rfl) opens102)))
theorem opens59 : Opens Tryz.prog 59 encCond (fun b => (b.Pos.length ≤ maxLen ∧ ∀ y24 ∈ b.Pos, (Lit.int .i64 y24).wf = true) ∧ (b.Neg.length ≤ maxLen ∧ ∀ y24 ∈ b.Neg, (Lit.int .i64 y24).wf = true) ∧ (b.Tests.length ≤ maxLen ∧ ∀ y57 ∈ b.Tests, (y57.Op.size ≤ maxLen) ∧ (WFE y57.A) ∧ (WFE y57.B))) :=
  Opens.struct (fun t => ⟨t.1, t.2.1, t.2.2⟩) Tryz.underlying59 (by kernel_rfl) (fun _ => rfl)
    (FOpens.cons rfl (by kernel_rfl) (Opens.slice Tryz.underlying24 (by kernel_rfl) (Opens.int Tryz.underlying3)) rfl (FOpens.cons rfl (by kernel_rfl) (Opens.slice Tryz.underlying24 (by kernel_rfl) (Opens.int Tryz.underlying3)) rfl (FOpens.one rfl (by kernel_rfl) (Opens.slice Tryz.underlying57 (by kernel_rfl) opens104))))
theorem opens81 : Opens Tryz.prog 81 encGChange (fun b => ((b.When.Pos.length ≤ maxLen ∧ ∀ y24 ∈ b.When.Pos, (Lit.int .i64 y24).wf = true) ∧ (b.When.Neg.length ≤ maxLen ∧ ∀ y24 ∈ b.When.Neg, (Lit.int .i64 y24).wf = true) ∧ (b.When.Tests.length ≤ maxLen ∧ ∀ y57 ∈ b.When.Tests, (y57.Op.size ≤ maxLen) ∧ (WFE y57.A) ∧ (WFE y57.B))) ∧ ((Lit.int .i64 b.Atom).wf = true) ∧ (True)) :=
  Opens.struct (fun t => ⟨t.1, t.2.1, t.2.2⟩) Tryz.underlying81 (by kernel_rfl) (fun _ => rfl)
    (FOpens.cons rfl (by kernel_rfl) opens59 rfl (FOpens.cons rfl (by kernel_rfl) (Opens.int Tryz.underlying3) rfl (FOpens.one rfl (by kernel_rfl) (Opens.bool Tryz.underlying4))))
theorem opens109 : Opens Tryz.prog 109 encGAssign (fun b => ((Lit.int .i64 b.Fluent).wf = true) ∧ (WFE b.Value)) :=
  Opens.struct (fun t => ⟨t.1, t.2⟩) Tryz.underlying109 (by kernel_rfl) (fun _ => rfl)
    (FOpens.cons rfl (by kernel_rfl) (Opens.int Tryz.underlying3) rfl (FOpens.one rfl (by kernel_rfl) opens102))
theorem opens63 : Opens Tryz.prog 63 encGOp (fun b => (b.Name.size ≤ maxLen) ∧ ((Lit.int .i64 b.Cost).wf = true) ∧ ((b.Pre.Pos.length ≤ maxLen ∧ ∀ y24 ∈ b.Pre.Pos, (Lit.int .i64 y24).wf = true) ∧ (b.Pre.Neg.length ≤ maxLen ∧ ∀ y24 ∈ b.Pre.Neg, (Lit.int .i64 y24).wf = true) ∧ (b.Pre.Tests.length ≤ maxLen ∧ ∀ y57 ∈ b.Pre.Tests, (y57.Op.size ≤ maxLen) ∧ (WFE y57.A) ∧ (WFE y57.B))) ∧ (b.Changes.length ≤ maxLen ∧ ∀ y60 ∈ b.Changes, ((y60.When.Pos.length ≤ maxLen ∧ ∀ y24 ∈ y60.When.Pos, (Lit.int .i64 y24).wf = true) ∧ (y60.When.Neg.length ≤ maxLen ∧ ∀ y24 ∈ y60.When.Neg, (Lit.int .i64 y24).wf = true) ∧ (y60.When.Tests.length ≤ maxLen ∧ ∀ y57 ∈ y60.When.Tests, (y57.Op.size ≤ maxLen) ∧ (WFE y57.A) ∧ (WFE y57.B))) ∧ ((Lit.int .i64 y60.Atom).wf = true) ∧ (True)) ∧ (b.Assigns.length ≤ maxLen ∧ ∀ y61 ∈ b.Assigns, ((Lit.int .i64 y61.Fluent).wf = true) ∧ (WFE y61.Value))) :=
  Opens.struct (fun t => ⟨t.1, t.2.1, t.2.2.1, t.2.2.2.1, t.2.2.2.2⟩) Tryz.underlying63 (by kernel_rfl) (fun _ => rfl)
    (FOpens.cons rfl (by kernel_rfl) (Opens.str Tryz.underlying9) rfl (FOpens.cons rfl (by kernel_rfl) (Opens.int Tryz.underlying3) rfl (FOpens.cons rfl (by kernel_rfl) opens59 rfl (FOpens.cons rfl (by kernel_rfl) (Opens.slice Tryz.underlying60 (by kernel_rfl) opens81) rfl (FOpens.one rfl (by kernel_rfl) (Opens.slice Tryz.underlying61 (by kernel_rfl) opens109))))))
theorem opens28 : Opens Tryz.prog 28 encGround (fun b => (b.Atoms.length ≤ maxLen ∧ ∀ y22 ∈ b.Atoms, (y22.Name.size ≤ maxLen) ∧ (y22.Args.length ≤ maxLen ∧ ∀ y54 ∈ y22.Args, y54.size ≤ maxLen)) ∧ (b.Fluents.length ≤ maxLen ∧ ∀ y23 ∈ b.Fluents, ((y23.Fluent.Name.size ≤ maxLen) ∧ (y23.Fluent.Args.length ≤ maxLen ∧ ∀ y54 ∈ y23.Fluent.Args, y54.size ≤ maxLen)) ∧ ((Lit.int .i64 y23.Lo).wf = true) ∧ ((Lit.int .i64 y23.Hi).wf = true) ∧ ((Lit.int .i64 y23.Init).wf = true)) ∧ (b.Init.length ≤ maxLen ∧ ∀ y24 ∈ b.Init, (Lit.int .i64 y24).wf = true) ∧ (b.Goal.length ≤ maxLen ∧ ∀ y25 ∈ b.Goal, (y25.Pos.length ≤ maxLen ∧ ∀ y24 ∈ y25.Pos, (Lit.int .i64 y24).wf = true) ∧ (y25.Neg.length ≤ maxLen ∧ ∀ y24 ∈ y25.Neg, (Lit.int .i64 y24).wf = true) ∧ (y25.Tests.length ≤ maxLen ∧ ∀ y57 ∈ y25.Tests, (y57.Op.size ≤ maxLen) ∧ (WFE y57.A) ∧ (WFE y57.B))) ∧ (b.Ops.length ≤ maxLen ∧ ∀ y26 ∈ b.Ops, (y26.Name.size ≤ maxLen) ∧ ((Lit.int .i64 y26.Cost).wf = true) ∧ ((y26.Pre.Pos.length ≤ maxLen ∧ ∀ y24 ∈ y26.Pre.Pos, (Lit.int .i64 y24).wf = true) ∧ (y26.Pre.Neg.length ≤ maxLen ∧ ∀ y24 ∈ y26.Pre.Neg, (Lit.int .i64 y24).wf = true) ∧ (y26.Pre.Tests.length ≤ maxLen ∧ ∀ y57 ∈ y26.Pre.Tests, (y57.Op.size ≤ maxLen) ∧ (WFE y57.A) ∧ (WFE y57.B))) ∧ (y26.Changes.length ≤ maxLen ∧ ∀ y60 ∈ y26.Changes, ((y60.When.Pos.length ≤ maxLen ∧ ∀ y24 ∈ y60.When.Pos, (Lit.int .i64 y24).wf = true) ∧ (y60.When.Neg.length ≤ maxLen ∧ ∀ y24 ∈ y60.When.Neg, (Lit.int .i64 y24).wf = true) ∧ (y60.When.Tests.length ≤ maxLen ∧ ∀ y57 ∈ y60.When.Tests, (y57.Op.size ≤ maxLen) ∧ (WFE y57.A) ∧ (WFE y57.B))) ∧ ((Lit.int .i64 y60.Atom).wf = true) ∧ (True)) ∧ (y26.Assigns.length ≤ maxLen ∧ ∀ y61 ∈ y26.Assigns, ((Lit.int .i64 y61.Fluent).wf = true) ∧ (WFE y61.Value)))) :=
  Opens.struct (fun t => ⟨t.1, t.2.1, t.2.2.1, t.2.2.2.1, t.2.2.2.2⟩) Tryz.underlying28 (by kernel_rfl) (fun _ => rfl)
    (FOpens.cons rfl (by kernel_rfl) (Opens.slice Tryz.underlying22 (by kernel_rfl) opens56) rfl (FOpens.cons rfl (by kernel_rfl) (Opens.slice Tryz.underlying23 (by kernel_rfl) opens69) rfl (FOpens.cons rfl (by kernel_rfl) (Opens.slice Tryz.underlying24 (by kernel_rfl) (Opens.int Tryz.underlying3)) rfl (FOpens.cons rfl (by kernel_rfl) (Opens.slice Tryz.underlying25 (by kernel_rfl) opens59) rfl (FOpens.one rfl (by kernel_rfl) (Opens.slice Tryz.underlying26 (by kernel_rfl) opens63))))))
theorem opens56U : OpensU Tryz.prog 56 encAtom (fun b => (b.Name.size ≤ 1048576) ∧ (b.Args.length ≤ maxLen ∧ ∀ y54 ∈ b.Args, y54.size ≤ 1048576)) :=
  OpensU.struct (fun t => ⟨t.1, t.2⟩) Tryz.underlying56 (by kernel_rfl) (fun _ => rfl)
    (FOpensU.cons rfl (by kernel_rfl) (OpensU.str Tryz.underlying9) rfl (FOpensU.one rfl (by kernel_rfl) (OpensU.slice Tryz.underlying54 (by kernel_rfl) (OpensU.str Tryz.underlying9))))
theorem opens28U : OpensU Tryz.prog 28 encGround (fun b => (b.Atoms.length ≤ maxLen ∧ ∀ y22 ∈ b.Atoms, (y22.Name.size ≤ 1048576) ∧ (y22.Args.length ≤ maxLen ∧ ∀ y54 ∈ y22.Args, y54.size ≤ 1048576)) ∧ (b.Fluents.length ≤ maxLen ∧ ∀ y23 ∈ b.Fluents, ((y23.Fluent.Name.size ≤ maxLen) ∧ (y23.Fluent.Args.length ≤ maxLen ∧ ∀ y54 ∈ y23.Fluent.Args, y54.size ≤ maxLen)) ∧ ((Lit.int .i64 y23.Lo).wf = true) ∧ ((Lit.int .i64 y23.Hi).wf = true) ∧ ((Lit.int .i64 y23.Init).wf = true)) ∧ (b.Init.length ≤ maxLen ∧ ∀ y24 ∈ b.Init, (Lit.int .i64 y24).wf = true) ∧ (b.Goal.length ≤ maxLen ∧ ∀ y25 ∈ b.Goal, (y25.Pos.length ≤ maxLen ∧ ∀ y24 ∈ y25.Pos, (Lit.int .i64 y24).wf = true) ∧ (y25.Neg.length ≤ maxLen ∧ ∀ y24 ∈ y25.Neg, (Lit.int .i64 y24).wf = true) ∧ (y25.Tests.length ≤ maxLen ∧ ∀ y57 ∈ y25.Tests, (y57.Op.size ≤ maxLen) ∧ (WFE y57.A) ∧ (WFE y57.B))) ∧ (b.Ops.length ≤ maxLen ∧ ∀ y26 ∈ b.Ops, (y26.Name.size ≤ maxLen) ∧ ((Lit.int .i64 y26.Cost).wf = true) ∧ ((y26.Pre.Pos.length ≤ maxLen ∧ ∀ y24 ∈ y26.Pre.Pos, (Lit.int .i64 y24).wf = true) ∧ (y26.Pre.Neg.length ≤ maxLen ∧ ∀ y24 ∈ y26.Pre.Neg, (Lit.int .i64 y24).wf = true) ∧ (y26.Pre.Tests.length ≤ maxLen ∧ ∀ y57 ∈ y26.Pre.Tests, (y57.Op.size ≤ maxLen) ∧ (WFE y57.A) ∧ (WFE y57.B))) ∧ (y26.Changes.length ≤ maxLen ∧ ∀ y60 ∈ y26.Changes, ((y60.When.Pos.length ≤ maxLen ∧ ∀ y24 ∈ y60.When.Pos, (Lit.int .i64 y24).wf = true) ∧ (y60.When.Neg.length ≤ maxLen ∧ ∀ y24 ∈ y60.When.Neg, (Lit.int .i64 y24).wf = true) ∧ (y60.When.Tests.length ≤ maxLen ∧ ∀ y57 ∈ y60.When.Tests, (y57.Op.size ≤ maxLen) ∧ (WFE y57.A) ∧ (WFE y57.B))) ∧ ((Lit.int .i64 y60.Atom).wf = true) ∧ (True)) ∧ (y26.Assigns.length ≤ maxLen ∧ ∀ y61 ∈ y26.Assigns, ((Lit.int .i64 y61.Fluent).wf = true) ∧ (WFE y61.Value)))) :=
  OpensU.struct (fun t => ⟨t.1, t.2.1, t.2.2.1, t.2.2.2.1, t.2.2.2.2⟩) Tryz.underlying28 (by kernel_rfl) (fun _ => rfl)
    (FOpensU.cons rfl (by kernel_rfl) (OpensU.slice Tryz.underlying22 (by kernel_rfl) opens56U) rfl (FOpensU.cons rfl (by kernel_rfl) (Opens.toU (Opens.slice Tryz.underlying23 (by kernel_rfl) opens69)) rfl (FOpensU.cons rfl (by kernel_rfl) (Opens.toU (Opens.slice Tryz.underlying24 (by kernel_rfl) (Opens.int Tryz.underlying3))) rfl (FOpensU.cons rfl (by kernel_rfl) (Opens.toU (Opens.slice Tryz.underlying25 (by kernel_rfl) opens59)) rfl (FOpensU.one rfl (by kernel_rfl) (Opens.toU (Opens.slice Tryz.underlying26 (by kernel_rfl) opens63)))))))
theorem tab0 {W : World} (h : laidMetH Tryz.prog Rows.invariantMaximalUptoRow.laid W) : Lib.TabIs Tryz.prog W "internal/strconv.uint64pow10" .u64 Lib.pow10Tab := by
  rw [MakeChecks.laidMetH_plain _ _ _ (by kernel_rfl)] at h
  obtain ⟨ps, ⟨g0, t0, cs0, f0, p0, q0, _, _, _, _, ⟨g1, t1, cs1, f1, p1, q1, _, _, _, _, ⟨g2, t2, cs2, f2, p2, q2, hg, ht, hv, hd, _, _⟩, _⟩, _⟩, _⟩ := h
  obtain rfl := Option.some.inj ((show Tryz.prog.globalNamed "internal/strconv.uint64pow10" = some 0 by kernel_rfl).symm.trans hg)
  obtain rfl := Option.some.inj ((show (Tryz.prog.globals[0]?).map (·.type) = some 185 by kernel_rfl).symm.trans ht)
  unfold Lib.TabIs
  rw [hv, ← Lib.cells_of_tab (k := .u64) (zs := Lib.pow10Tab) Tryz.underlying185 (by kernel_rfl) (by kernel_rfl) (by kernel_rfl) hd]
theorem qtab0 {W : World} (h : laidMetH Tryz.prog Rows.invariantMaximalUptoRow.laid W) : QTab 5 6 7 8 3 4 W := by
  rw [MakeChecks.laidMetH_plain _ _ _ (by kernel_rfl)] at h
  have rd : ∀ {n : String} {d : DataW Unit}, (n, d) ∈ Rows.invariantMaximalUptoRow.laid → Lib.VarReads Tryz.prog W n d := fun hm => Lib.laidMet.reads h hm
  exact ⟨printTabs_of_reads (ρ := lay89_ren) { lay89 with } ⟨by kernel_rfl, by kernel_rfl, by kernel_rfl, by kernel_rfl, by kernel_rfl, by kernel_rfl, by kernel_rfl, by kernel_rfl, by kernel_rfl, by kernel_rfl⟩ (show Lib.VarReads Tryz.prog W "strconv.isPrint16" (sliceData .u16 goPrintTabs.p16) from (show Rows.laid_strconv_isPrint16 = sliceData .u16 goPrintTabs.p16 from by kernel_rfl) ▸ rd (.tail _ (.tail _ (.tail _ (.tail _ (.tail _ (.tail _ (.tail _ (.head _))))))))) (show Lib.VarReads Tryz.prog W "strconv.isNotPrint16" (sliceData .u16 goPrintTabs.n16) from (show Rows.laid_strconv_isNotPrint16 = sliceData .u16 goPrintTabs.n16 from by kernel_rfl) ▸ rd (.tail _ (.tail _ (.tail _ (.tail _ (.tail _ (.head _))))))) (show Lib.VarReads Tryz.prog W "strconv.isPrint32" (sliceData .u32 goPrintTabs.p32) from (show Rows.laid_strconv_isPrint32 = sliceData .u32 goPrintTabs.p32 from by kernel_rfl) ▸ rd (.tail _ (.tail _ (.tail _ (.tail _ (.tail _ (.tail _ (.tail _ (.tail _ (.head _)))))))))) (show Lib.VarReads Tryz.prog W "strconv.isNotPrint32" (sliceData .u16 goPrintTabs.n32) from (show Rows.laid_strconv_isNotPrint32 = sliceData .u16 goPrintTabs.n32 from by kernel_rfl) ▸ rd (.tail _ (.tail _ (.tail _ (.tail _ (.tail _ (.tail _ (.head _)))))))),
    utf8Tabs_of_reads (ρ := lay89_ren) { lay89 with } ⟨by kernel_rfl, by kernel_rfl, by kernel_rfl, by kernel_rfl, by kernel_rfl, by kernel_rfl, by kernel_rfl⟩ (show Lib.VarReads Tryz.prog W "unicode/utf8.first" (firstData) from (show Rows.laid_unicode_utf8_first = firstData from by kernel_rfl) ▸ rd (.tail _ (.tail _ (.tail _ (.tail _ (.tail _ (.tail _ (.tail _ (.tail _ (.tail _ (.head _))))))))))) (show Lib.VarReads Tryz.prog W "unicode/utf8.acceptRanges" (acceptData) from (show Rows.laid_unicode_utf8_acceptRanges = acceptData from by kernel_rfl) ▸ rd (.tail _ (.tail _ (.tail _ (.head _)))))⟩
/-- The world with the door's tables and the pinned ones. -/
def natsOf : DataW Unit → List Nat
  | .slice es _ => es.map fun | .lit (.int _ n) => n.toNat | _ => 0
  | _ => []
noncomputable abbrev N0 : Nat := (World.doorLaid Tryz.prog 400 default).heap.size
noncomputable def laidW (os : Os) : World :=
  let w0 := World.doorLaid Tryz.prog 400 os
  let N := w0.heap.size
  let put (h : Array Obj) (g : Nat) (cs : Array Value) : Array Obj := h.modify g fun
    | .cells _ t frozen => .cells cs t frozen
    | o => o
  let h0 := (((((w0.heap.push (.cells (Lib.intCellsOf .u16 (goPrintTabs.p16)) 198 (0, 0))).push (.cells (Lib.intCellsOf .u16 (goPrintTabs.n16)) 198 (0, 0))).push (.cells (Lib.intCellsOf .u32 (goPrintTabs.p32)) 153 (0, 0))).push (.cells (Lib.intCellsOf .u16 (goPrintTabs.n32)) 198 (0, 0))).push (.cells (Lib.intCellsOf .u16 (natsOf Rows.laid_strconv_isGraphic)) 198 (0, 0)))
  let h1 := put h0 3 (Lib.firstTab.map fun z => Value.int .u8 z).toArray
  let h2 := put h1 5 #[.slice (some ⟨N + 0, 0, none⟩) (goPrintTabs.p16).length (goPrintTabs.p16).length]
  let h3 := put h2 6 #[.slice (some ⟨N + 1, 0, none⟩) (goPrintTabs.n16).length (goPrintTabs.n16).length]
  let h4 := put h3 7 #[.slice (some ⟨N + 2, 0, none⟩) (goPrintTabs.p32).length (goPrintTabs.p32).length]
  let h5 := put h4 8 #[.slice (some ⟨N + 3, 0, none⟩) (goPrintTabs.n32).length (goPrintTabs.n32).length]
  let h6 := put h5 9 #[.slice (some ⟨N + 4, 0, none⟩) (natsOf Rows.laid_strconv_isGraphic).length (natsOf Rows.laid_strconv_isGraphic).length]
  { w0 with heap := h6 }
set_option maxRecDepth 1000000 in
theorem piece0 (os : Os) (args : Array Value) : LaidIn Tryz.prog ((laidW os).forCall (fun _ _ => 0) ⟨#[], args, []⟩).memory [("math/bits.deBruijn32tab", Rows.laid_math_bits_deBruijn32tab), ("math/bits.deBruijn64tab", Rows.laid_math_bits_deBruijn64tab), ("internal/strconv.uint64pow10", Rows.laid_internal_strconv_uint64pow10), ("unicode/utf8.acceptRanges", Rows.laid_unicode_utf8_acceptRanges)] [0, 1, 2, 4] :=
  LaidIn.of_run [0, 1, 2, 4] 65 (by kernel_rfl) (by kernel_rfl) (by kernel_rfl) (by kernel_rfl)
set_option maxRecDepth 1000000 in
theorem piece9 (os : Os) (args : Array Value) : LaidIn Tryz.prog ((laidW os).forCall (fun _ _ => 0) ⟨#[], args, []⟩).memory [("unicode/utf8.first", Rows.laid_unicode_utf8_first)] [3] :=
  LaidIn.of_run [3] 65 (by kernel_rfl) (by kernel_rfl) (by kernel_rfl) (by kernel_rfl)
set_option maxRecDepth 1000000 in
theorem piece_isGraphic (os : Os) (args : Array Value) : LaidIn Tryz.prog ((laidW os).forCall (fun _ _ => 0) ⟨#[], args, []⟩).memory [("strconv.isGraphic", Lib.sliceData .u16 (natsOf Rows.laid_strconv_isGraphic))] [9, N0 + 4] :=
  Lib.laidIn_slice (t := 199) (e := 198) (te := 198) (natsOf Rows.laid_strconv_isGraphic) (N0 + 4) (by kernel_rfl) (by kernel_rfl) (by kernel_rfl) (by kernel_rfl) (by kernel_rfl) (by kernel_rfl) (by kernel_rfl) (by kernel_rfl) (of_decide_eq_true (by kernel_rfl)) (of_decide_eq_true (by kernel_rfl))
set_option maxRecDepth 1000000 in
theorem piece_isNotPrint16 (os : Os) (args : Array Value) : LaidIn Tryz.prog ((laidW os).forCall (fun _ _ => 0) ⟨#[], args, []⟩).memory [("strconv.isNotPrint16", Lib.sliceData .u16 (goPrintTabs.n16))] [6, N0 + 1] :=
  Lib.laidIn_slice (t := 199) (e := 198) (te := 198) (goPrintTabs.n16) (N0 + 1) (by kernel_rfl) (by kernel_rfl) (by kernel_rfl) (by kernel_rfl) (by kernel_rfl) (by kernel_rfl) (by kernel_rfl) (by kernel_rfl) (of_decide_eq_true (by kernel_rfl)) (of_decide_eq_true (by kernel_rfl))
set_option maxRecDepth 1000000 in
theorem piece_isNotPrint32 (os : Os) (args : Array Value) : LaidIn Tryz.prog ((laidW os).forCall (fun _ _ => 0) ⟨#[], args, []⟩).memory [("strconv.isNotPrint32", Lib.sliceData .u16 (goPrintTabs.n32))] [8, N0 + 3] :=
  Lib.laidIn_slice (t := 199) (e := 198) (te := 198) (goPrintTabs.n32) (N0 + 3) (by kernel_rfl) (by kernel_rfl) (by kernel_rfl) (by kernel_rfl) (by kernel_rfl) (by kernel_rfl) (by kernel_rfl) (by kernel_rfl) (of_decide_eq_true (by kernel_rfl)) (of_decide_eq_true (by kernel_rfl))
set_option maxRecDepth 1000000 in
theorem piece_isPrint16 (os : Os) (args : Array Value) : LaidIn Tryz.prog ((laidW os).forCall (fun _ _ => 0) ⟨#[], args, []⟩).memory [("strconv.isPrint16", Lib.sliceData .u16 (goPrintTabs.p16))] [5, N0 + 0] :=
  Lib.laidIn_slice (t := 199) (e := 198) (te := 198) (goPrintTabs.p16) (N0 + 0) (by kernel_rfl) (by kernel_rfl) (by kernel_rfl) (by kernel_rfl) (by kernel_rfl) (by kernel_rfl) (by kernel_rfl) (by kernel_rfl) (of_decide_eq_true (by kernel_rfl)) (of_decide_eq_true (by kernel_rfl))
set_option maxRecDepth 1000000 in
theorem piece_isPrint32 (os : Os) (args : Array Value) : LaidIn Tryz.prog ((laidW os).forCall (fun _ _ => 0) ⟨#[], args, []⟩).memory [("strconv.isPrint32", Lib.sliceData .u32 (goPrintTabs.p32))] [7, N0 + 2] :=
  Lib.laidIn_slice (t := 201) (e := 153) (te := 153) (goPrintTabs.p32) (N0 + 2) (by kernel_rfl) (by kernel_rfl) (by kernel_rfl) (by kernel_rfl) (by kernel_rfl) (by kernel_rfl) (by kernel_rfl) (by kernel_rfl) (of_decide_eq_true (by kernel_rfl)) (of_decide_eq_true (by kernel_rfl))
theorem laidList : Rows.invariantMaximalUptoRow.laid = [("math/bits.deBruijn32tab", Rows.laid_math_bits_deBruijn32tab), ("math/bits.deBruijn64tab", Rows.laid_math_bits_deBruijn64tab), ("internal/strconv.uint64pow10", Rows.laid_internal_strconv_uint64pow10), ("unicode/utf8.acceptRanges", Rows.laid_unicode_utf8_acceptRanges)] ++ [("strconv.isGraphic", Lib.sliceData .u16 (natsOf Rows.laid_strconv_isGraphic))] ++ [("strconv.isNotPrint16", Lib.sliceData .u16 (goPrintTabs.n16))] ++ [("strconv.isNotPrint32", Lib.sliceData .u16 (goPrintTabs.n32))] ++ [("strconv.isPrint16", Lib.sliceData .u16 (goPrintTabs.p16))] ++ [("strconv.isPrint32", Lib.sliceData .u32 (goPrintTabs.p32))] ++ [("unicode/utf8.first", Rows.laid_unicode_utf8_first)] := by kernel_rfl
theorem door0 (os : Os) (args : Array Value) : laidMetH Tryz.prog Rows.invariantMaximalUptoRow.laid ((laidW os).forCall (fun _ _ => 0) ⟨#[], args, []⟩).memory := by
  rw [MakeChecks.laidMetH_plain _ _ _ (by kernel_rfl), laidList]
  exact (((((((piece0 os args).append (piece_isGraphic os args) (by kernel_rfl)).append (piece_isNotPrint16 os args) (by kernel_rfl)).append (piece_isNotPrint32 os args) (by kernel_rfl)).append (piece_isPrint16 os args) (by kernel_rfl)).append (piece_isPrint32 os args) (by kernel_rfl)).append (piece9 os args) (by kernel_rfl)).met
set_option maxRecDepth 100000 in
theorem lifted0 (os : Os) (started : os.Started) (H : Type) (enc : TypeId × Value → H) (F : Stop.Interp) :
    ReturnsInHanded {} Tryz.checked os 5 .any (fun w args => ((Rows.OpenSpec.upto Rows.invariantMaximalSpec).pre enc Tryz.prog Tryz.f5 [] false w args ∧ laidMetH Tryz.prog Rows.invariantMaximalUptoRow.laid w) ∧ sizedMet enc Tryz.prog Tryz.f5 (Rows.OpenSpec.upto Rows.invariantMaximalSpec) false w args)
      (((Rows.OpenSpec.upto Rows.invariantMaximalSpec).at F).post enc Tryz.prog Tryz.f5 false true false false) := by
  refine returnsInHanded_of_cond_and (C := Tryz.checked) (s := (Rows.OpenSpec.upto Rows.invariantMaximalSpec)) (k := Rows.uptoSmall) rfl (X := fun w _ => laidMetH Tryz.prog Rows.invariantMaximalUptoRow.laid w) (fun _ _ _ hh h => h.of_heap hh) own0 started (by kernel_rfl) Tryz.func5
    (OpenSpec.witness_shaped (s := (Rows.OpenSpec.upto Rows.invariantMaximalSpec)) (k := Rows.uptoSmall) rfl (enc := enc) (C := Tryz.checked) (os := os) (X := fun w _ => laidMetH Tryz.prog Rows.invariantMaximalUptoRow.laid w) false (laidW os) #[Value.agg #[Value.slice none 0 0, Value.slice none 0 0, Value.slice none 0 0, Value.slice none 0 0, Value.slice none 0 0]] 8 rfl (World.shaped_of_RefB (by kernel_rfl) (by kernel_rfl)) (by kernel_rfl) (by kernel_rfl) (by kernel_rfl) (door0 os _)) ?_
  intro W base args ds gs before hval0 hW hcnd hk hL _
  have hval : ∀ (j : Nat) t v, Tryz.f5.params[j]? = some t → args[j]? = some v → Value.okWide Tryz.prog W .any base t v := hval0
  have hW' := hW
  obtain ⟨p, q, hA0, hV, rfl, hfz, hnd⟩ := hW
  have hA : DataW.TrodAll enc Tryz.prog W 0 (fun _ => true) true Tryz.f5.params.toList args.toList ds p := hA0
  rw [Tryz.params5] at hA hval
  obtain ⟨v0, d0, rfl, rfl, h0⟩ := trodAll_one hA
  obtain ⟨rfl, rfl⟩ := trodVars_none hV
  simp only [List.append_nil] at hW'
  have hbulk : Rows.uptoBulk d0 ≤ 1048576 := by
    have := of_decide_eq_true hk
    simp only [List.append_nil, Rows.uptoBulkAll] at this
    omega
  have hlt : ∀ x ∈ p, x.block < W.heap.size := fun x hx => by simpa using hW'.lt x hx
  obtain ⟨x0, b0, w0⟩ := arg_aggU opens28U (.inl ⟨_, Tryz.underlying28⟩) rfl (hval 0 28 v0 rfl rfl) h0 hbulk
  have e0 := encGround_val.1 b0
  obtain ⟨u0_0, u0_1, u0_2, u0_3, u0_4, rfl, r0_0, r0_1, r0_2, r0_3, r0_4⟩ := e0
  refine (law20_InvariantMaximal_sim (invariantMaximal_ok (lenG_of w0) (Nat.le_refl _) (fun a ha => ⟨(w0.1.2 a ha).1, (w0.1.2 a ha).2.2⟩)) (St.start0 W) r0_0 r0_1 r0_2 r0_3 r0_4 (TabR.start (tab0 hL) (qtab0 hL))).mono ?_
  rintro _ W' ⟨_, rfl, s', hle, hS', rfl⟩
  have hb := below_of_St0 hS' hle
  exact ⟨_, rfl, ⟨_, _, _, [], _, [], hW', trodAll_mk1 (shut_bool Tryz.underlying4 true),
    trodAll_mk1 (Below.trod laid0 (by kernel_rfl) (of_decide_eq_true (by kernel_rfl)) h0 hb fun x hx => hlt x (by simp [hx])), rfl, hb.frame _, fun h => by cases h⟩⟩
theorem said0 : Rows.InvariantMaximalUptoSaid :=
  OpenClaim.holds_of_cond 5 Tryz.f5 rfl rfl rfl rfl rfl rfl rfl ⟨rfl, rfl, rfl, rfl, rfl⟩ rfl rfl rfl rfl rfl (by kernel_rfl) Tryz.func5 (by kernel_rfl)
    (of_decide_eq_true (by kernel_rfl)) (by unfold Func.isWrapper; first | (rw [if_pos (by decide +kernel)]; kernel_rfl) | (rw [if_neg (by decide +kernel)]; exact ⟨rfl, rfl⟩))
    (fun os started H enc _ F => lifted0 os started H enc F)
end Go.Pw
namespace Go.Proofs.YtcabhickgjhkhaaGreatDoor
theorem invariantMaximal_holds : Rows.InvariantMaximalUptoCardSaid :=
  Claim7.holds_tied_plain_at .later [] [.data, .data, .data, .data, .pinned, .pinned, .pinned, .pinned, .pinned, .pinned] true (true, "f80cb9e646a5ed8fd6b3d20b6cb8d197e6effc8063fc94591a0a076e0501df17") true Go.Pw.said0 (fun _ h => by cases h) (by kernel_rfl) (fun _ h => by cases h) invariantMaximalUpto_row_tie rfl ⟨rfl, rfl⟩ (by kernel_rfl) rfl
    (fun f fn hf hfn => by
      obtain rfl : f = 5 := Option.some.inj ((show Tryz.prog.funcNamed "stratagem/stratagemlaw20.InvariantMaximal" = some 5 by kernel_rfl).symm.trans hf) |>.symm
      obtain rfl : fn = Tryz.f5 := (Option.some.inj (Tryz.func5.symm.trans hfn)).symm
      exact ⟨by kernel_rfl, fun j t ht => by
        rw [Tryz.params5] at ht
        have hm : t ∈ [28] := by simpa using Array.mem_of_getElem? ht
        have hall : ([28].all fun u => !Tryz.prog.wantsStandIn u) = true := by kernel_rfl
        exact (show Tryz.prog.wantsStandIn t = false by simpa using List.all_eq_true.1 hall t hm)⟩)
    (by kernel_rfl)
end Go.Proofs.YtcabhickgjhkhaaGreatDoor
