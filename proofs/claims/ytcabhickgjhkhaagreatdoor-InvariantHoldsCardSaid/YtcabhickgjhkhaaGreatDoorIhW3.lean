/-
  strconv.Quote, by the shelf's contract.
-/
import Derived.Test.YtcabhickgjhkhaaGreatDoorIhW2
import Derived.Test.YtcabhickgjhkhaaGreatDoorL47
import Derived.Shelf.Strconv.Quote
set_option maxRecDepth 100000
set_option maxHeartbeats 4000000
set_option linter.unusedSimpArgs false
set_option linter.unusedVariables false
namespace Go.Pw
open Go.Proofs Go.Shelf Go.RowKit Go.Lib
def lay89_ren : Go.Shelf.Ren := ⟨fun | 177 => 89 | 250 => 111 | 289 => 125 | 197 => 132 | 323 => 133 | 260 => 136 | 339 => 137 | 340 => 138 | 242 => 139 | 119 => 140 | 345 => 141 | 346 => 142 | 278 => 143 | n => n, fun | 9 => 9 | 5 => 5 | 4 => 4 | 3 => 3 | 37 => 49 | 21 => 21 | 105 => 187 | 46 => 118 | 119 => 194 | 0 => 0 | 139 => 197 | 138 => 196 | 49 => 198 | 234 => 199 | 131 => 42 | 51 => 153 | 236 => 201 | n => n, fun | 3 => 3 | 4 => 4 | 20 => 5 | 21 => 6 | 22 => 7 | 23 => 8 | 24 => 9 | n => n⟩
theorem lay89 : Go.Proofs.Lays.n177 Tryz.prog lay89_ren := {
  mixed := by kernel_rfl,
  f119 := Tryz.func140.trans (congrArg some (by kernel_rfl)),
  f177 := Tryz.func89.trans (congrArg some (by kernel_rfl)),
  f197 := Tryz.func132.trans (congrArg some (by kernel_rfl)),
  f242 := Tryz.func139.trans (congrArg some (by kernel_rfl)),
  f250 := Tryz.func111.trans (congrArg some (by kernel_rfl)),
  f260 := Tryz.func136.trans (congrArg some (by kernel_rfl)),
  f278 := Tryz.func143.trans (congrArg some (by kernel_rfl)),
  f289 := Tryz.func125.trans (congrArg some (by kernel_rfl)),
  f323 := Tryz.func133.trans (congrArg some (by kernel_rfl)),
  f339 := Tryz.func137.trans (congrArg some (by kernel_rfl)),
  f340 := Tryz.func138.trans (congrArg some (by kernel_rfl)),
  f345 := Tryz.func141.trans (congrArg some (by kernel_rfl)),
  f346 := Tryz.func142.trans (congrArg some (by kernel_rfl)),
  t0 := Tryz.underlying0,
  a0 := Tryz.isAgg0,
  z0 := Tryz.sizeOf0,
  v0 := Tryz.zeroValue0,
  t3 := Tryz.underlying3,
  a3 := Tryz.isAgg3,
  z3 := Tryz.sizeOf3,
  v3 := Tryz.zeroValue3,
  t4 := Tryz.underlying4,
  a4 := Tryz.isAgg4,
  z4 := Tryz.sizeOf4,
  v4 := Tryz.zeroValue4,
  t5 := Tryz.underlying5,
  a5 := Tryz.isAgg5,
  z5 := Tryz.sizeOf5,
  v5 := Tryz.zeroValue5,
  t9 := Tryz.underlying9,
  a9 := Tryz.isAgg9,
  z9 := Tryz.sizeOf9,
  v9 := Tryz.zeroValue9,
  t21 := Tryz.underlying21,
  a21 := Tryz.isAgg21,
  z21 := Tryz.sizeOf21,
  v21 := Tryz.zeroValue21,
  t37 := Tryz.underlying49,
  a37 := Tryz.isAgg49,
  z37 := Tryz.sizeOf49,
  v37 := Tryz.zeroValue49,
  t46 := Tryz.underlying118,
  a46 := Tryz.isAgg118,
  z46 := Tryz.sizeOf118,
  v46 := Tryz.zeroValue118,
  t49 := Tryz.underlying198,
  a49 := Tryz.isAgg198,
  z49 := Tryz.sizeOf198,
  v49 := Tryz.zeroValue198,
  t51 := Tryz.underlying153,
  a51 := Tryz.isAgg153,
  z51 := Tryz.sizeOf153,
  v51 := Tryz.zeroValue153,
  t105 := Tryz.underlying187,
  a105 := Tryz.isAgg187,
  z105 := Tryz.sizeOf187,
  v105 := Tryz.zeroValue187,
  t119 := Tryz.underlying194,
  a119 := Tryz.isAgg194,
  z119 := Tryz.sizeOf194,
  t131 := Tryz.underlying42,
  a131 := Tryz.isAgg42,
  z131 := Tryz.sizeOf42,
  v131 := Tryz.zeroValue42,
  t138 := Tryz.underlying196,
  a138 := Tryz.isAgg196,
  z138 := Tryz.sizeOf196,
  v138 := Tryz.zeroValue196,
  t139 := Tryz.underlying197,
  a139 := Tryz.isAgg197,
  z139 := Tryz.sizeOf197,
  v139 := Tryz.zeroValue197,
  t234 := Tryz.underlying199,
  a234 := Tryz.isAgg199,
  z234 := Tryz.sizeOf199,
  v234 := Tryz.zeroValue199,
  t236 := Tryz.underlying201,
  a236 := Tryz.isAgg201,
  z236 := Tryz.sizeOf201,
  v236 := Tryz.zeroValue201,
  g3 := by kernel_rfl,
  g4 := by kernel_rfl,
  g20 := by kernel_rfl,
  g21 := by kernel_rfl,
  g22 := by kernel_rfl,
  g23 := by kernel_rfl,
  g24 := by kernel_rfl }
theorem St.below {w0 w w' : World} {s : PHeap} {H : List Res} (hS : St w0 s H w) (h : Below w.heap.size w w') : St w0 s H w' := by
  refine ⟨h.os.trans hS.os, h.tape.trans hS.tape, h.output.trans hS.output, Nat.zero_le _, Nat.le_trans hS.size h.size, fun b o hbo => ?_, ?_⟩
  · have := hS.stay b o hbo
    rw [h.block b (Array.getElem?_eq_some_iff.1 this).1]
    exact this
  · obtain ⟨bs, hn, hs, hh⟩ := hS.own
    exact ⟨bs, hn, hs, hh.loc fun b hm => h.block b (hh.lt b hm)⟩
theorem strconv_Quote_sim {w0 w : World} {s : PHeap} {H : List Res} {q : ByteArray} {r : ByteArray} (hm : strconv_Quote_p q = some r) (hS : St w0 s H w) (ht : TabQ Tryz.prog s) :
    Calls Tryz.prog 89 #[.string q] w fun e w' => ∃ v, e = .returned v ∧ ((fun (y : ByteArray) => ∃ (s' : PHeap), PHeap.le s s' ∧ St w0 s' H w' ∧ v = Value.string y) r) := by
  unfold strconv_Quote_p at hm
  split at hm
  · rename_i hc
    have hr := Zu hm
    subst hr
    have hq := ht.here hS
    refine (Any.strconv_Quote lay89 (by kernel_rfl) Lib.goPrintTabs q w hc hq.print hq.utf).mono ?_
    rintro e w' ⟨rfl, hb⟩
    exact ⟨_, rfl, s, Zv _, hS.below hb, rfl⟩
  · cases hm
end Go.Pw
/-
  The walks (printed by my generator).
-/
set_option maxRecDepth 100000
set_option maxHeartbeats 4000000
namespace Go.Pw
open Go.Proofs
end Go.Pw
