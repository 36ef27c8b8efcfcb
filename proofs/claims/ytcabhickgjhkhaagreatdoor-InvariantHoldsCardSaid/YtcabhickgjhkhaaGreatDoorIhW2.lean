/-
  strconv.Itoa, by the shelf's contract.
-/
import Derived.Test.YtcabhickgjhkhaaGreatDoorIhW1
import Derived.Test.YtcabhickgjhkhaaGreatDoorL47
set_option maxRecDepth 100000
set_option maxHeartbeats 4000000
set_option linter.unusedSimpArgs false
set_option linter.unusedVariables false
namespace Go.Pw
open Go.Proofs Go.Shelf Go.RowKit Go.Lib
def lay76_ren : Go.Shelf.Ren := ⟨fun | 171 => 76 | 243 => 87 | 246 => 109 | 283 => 120 | 284 => 121 | 285 => 122 | 286 => 123 | 129 => 100 | 317 => 128 | 318 => 129 | 319 => 130 | 320 => 131 | 337 => 134 | 338 => 135 | n => n, fun | 3 => 3 | 9 => 9 | 2 => 2 | 4 => 4 | 171 => 172 | 0 => 0 | 53 => 155 | 37 => 49 | 5 => 5 | 173 => 174 | 212 => 185 | 51 => 153 | 20 => 20 | 213 => 186 | 46 => 118 | 232 => 192 | 233 => 193 | n => n, fun | 17 => 0 | 18 => 1 | 19 => 2 | n => n⟩
theorem lay76 : Go.Proofs.LaysM.n171 Tryz.prog lay76_ren := {
  mixed := by kernel_rfl,
  f129 := Tryz.func100.trans (congrArg some (by kernel_rfl)),
  f171 := Tryz.func76.trans (congrArg some (by kernel_rfl)),
  f243 := Tryz.func87.trans (congrArg some (by kernel_rfl)),
  f246 := Tryz.func109.trans (congrArg some (by kernel_rfl)),
  f283 := Tryz.func120.trans (congrArg some (by kernel_rfl)),
  f284 := Tryz.func121.trans (congrArg some (by kernel_rfl)),
  f285 := Tryz.func122.trans (congrArg some (by kernel_rfl)),
  f286 := Tryz.func123.trans (congrArg some (by kernel_rfl)),
  f317 := Tryz.func128.trans (congrArg some (by kernel_rfl)),
  f318 := Tryz.func129.trans (congrArg some (by kernel_rfl)),
  f319 := Tryz.func130.trans (congrArg some (by kernel_rfl)),
  f320 := Tryz.func131.trans (congrArg some (by kernel_rfl)),
  f337 := Tryz.func134.trans (congrArg some (by kernel_rfl)),
  f338 := Tryz.func135.trans (congrArg some (by kernel_rfl)),
  t0 := Tryz.underlying0,
  a0 := Tryz.isAgg0,
  z0 := Tryz.sizeOf0,
  v0 := Tryz.zeroValue0,
  t2 := Tryz.underlying2,
  a2 := Tryz.isAgg2,
  z2 := Tryz.sizeOf2,
  v2 := Tryz.zeroValue2,
  t3 := Tryz.underlying3,
  a3 := Tryz.isAgg3,
  z3 := Tryz.sizeOf3,
  v3 := Tryz.zeroValue3,
  t4 := Tryz.underlying4,
  a4 := Tryz.isAgg4,
  z4 := Tryz.sizeOf4,
  v4 := Tryz.zeroValue4,
  t5 := Tryz.underlying5,
  a5 := Tryz.isAgg5,
  z5 := Tryz.sizeOf5,
  v5 := Tryz.zeroValue5,
  t9 := Tryz.underlying9,
  a9 := Tryz.isAgg9,
  z9 := Tryz.sizeOf9,
  v9 := Tryz.zeroValue9,
  t20 := Tryz.underlying20,
  a20 := Tryz.isAgg20,
  z20 := Tryz.sizeOf20,
  v20 := Tryz.zeroValue20,
  t37 := Tryz.underlying49,
  a37 := Tryz.isAgg49,
  z37 := Tryz.sizeOf49,
  v37 := Tryz.zeroValue49,
  t46 := Tryz.underlying118,
  a46 := Tryz.isAgg118,
  z46 := Tryz.sizeOf118,
  v46 := Tryz.zeroValue118,
  t51 := Tryz.underlying153,
  a51 := Tryz.isAgg153,
  z51 := Tryz.sizeOf153,
  v51 := Tryz.zeroValue153,
  t53 := Tryz.underlying155,
  a53 := Tryz.isAgg155,
  z53 := Tryz.sizeOf155,
  v53 := Tryz.zeroValue155,
  t171 := Tryz.underlying172,
  a171 := Tryz.isAgg172,
  z171 := Tryz.sizeOf172,
  v171 := Tryz.zeroValue172,
  t173 := Tryz.underlying174,
  a173 := Tryz.isAgg174,
  z173 := Tryz.sizeOf174,
  v173 := Tryz.zeroValue174,
  t212 := Tryz.underlying185,
  a212 := Tryz.isAgg185,
  z212 := Tryz.sizeOf185,
  v212 := Tryz.zeroValue185,
  t213 := Tryz.underlying186,
  a213 := Tryz.isAgg186,
  z213 := Tryz.sizeOf186,
  t232 := Tryz.underlying192,
  a232 := Tryz.isAgg192,
  z232 := Tryz.sizeOf192,
  v232 := Tryz.zeroValue192,
  t233 := Tryz.underlying193,
  a233 := Tryz.isAgg193,
  z233 := Tryz.sizeOf193,
  v233 := Tryz.zeroValue193,
  g17 := by kernel_rfl,
  g18 := by kernel_rfl,
  g19 := by kernel_rfl,
  i0 := by kernel_rfl,
  i2 := by kernel_rfl,
  i3 := by kernel_rfl,
  i4 := by kernel_rfl,
  i5 := by kernel_rfl,
  i9 := by kernel_rfl,
  i20 := by kernel_rfl,
  i37 := by kernel_rfl,
  i46 := by kernel_rfl,
  i51 := by kernel_rfl,
  i53 := by kernel_rfl,
  i171 := by kernel_rfl,
  i173 := by kernel_rfl,
  i212 := by kernel_rfl,
  i232 := by kernel_rfl,
  i233 := by kernel_rfl,
  m17 := by kernel_rfl,
  m18 := by kernel_rfl,
  m19 := by kernel_rfl }
theorem strconv_Itoa_sim {w0 w : World} {s : PHeap} {H : List Res} {n : Int} {r : ByteArray} (hm : strconv_Itoa_p n = some r) (hS : St w0 s H w) (ht : TabQ Tryz.prog s) :
    Calls Tryz.prog 76 #[.int .i64 n] w fun e w' => ∃ v, e = .returned v ∧ ((fun (y : ByteArray) => ∃ (s' : PHeap), PHeap.le s s' ∧ St w0 s' H w' ∧ v = Value.string y) r) := by
  unfold strconv_Itoa_p at hm
  split at hm
  · rename_i hc
    have hr := Zu hm
    subst hr
    refine (Any.strconv_Itoa lay76 n hc.1 hc.2 w (ht.1.here hS)).mono ?_
    rintro e w' ⟨rfl, k, os, rfl⟩
    exact ⟨_, rfl, s, Zv _, hS.grown k os, rfl⟩
  · cases hm
end Go.Pw
/-
  The walks (printed by my generator).
-/
set_option maxRecDepth 100000
set_option maxHeartbeats 4000000
namespace Go.Pw
open Go.Proofs
theorem Z140 : tyZero Tryz.prog 140 = some (Value.agg #[Value.pointer none, Value.slice none 0 0]) := by kernel_rfl
end Go.Pw
