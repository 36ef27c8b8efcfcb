/- -/
import Derived.Test.YtfcmpbkafbhdgaaGreatDoorWc5
import Derived.Test.YtfcmpbkafbhdgaaGreatDoorLF
import Derived.Test.YtfcmpbkafbhdgaaGreatDoorProg
import Derived.KernelRfl
set_option maxRecDepth 100000
set_option maxHeartbeats 4000000
set_option linter.unusedSimpArgs false
set_option linter.unusedVariables false
namespace Go.Pw
open Go.Proofs Go.Shelf Go.RowKit Go.Lib Go.Sort
def Qju : Go.Shelf.Ren := ⟨fun | 171 => 30 | 243 => 62 | 246 => 87 | 283 => 113 | 284 => 114 | 285 => 115 | 286 => 116 | 129 => 109 | 317 => 132 | 318 => 133 | 319 => 134 | 320 => 135 | 337 => 147 | 338 => 148 | n => n, fun | 3 => 3 | 9 => 9 | 2 => 2 | 4 => 4 | 171 => 179 | 0 => 0 | 53 => 174 | 37 => 79 | 5 => 5 | 173 => 181 | 212 => 201 | 51 => 172 | 20 => 20 | 213 => 202 | 46 => 144 | 232 => 217 | 233 => 218 | n => n, fun | 17 => 0 | 18 => 4 | 19 => 5 | n => n⟩
theorem Qmw : Go.Proofs.LaysM.n171 Tryz.prog Qju := {
 mixed := by kernel_rfl,
 f129 := Tryz.func109.trans (congrArg some (by kernel_rfl)),
 f171 := Tryz.func30.trans (congrArg some (by kernel_rfl)),
 f243 := Tryz.func62.trans (congrArg some (by kernel_rfl)),
 f246 := Tryz.func87.trans (congrArg some (by kernel_rfl)),
 f283 := Tryz.func113.trans (congrArg some (by kernel_rfl)),
 f284 := Tryz.func114.trans (congrArg some (by kernel_rfl)),
 f285 := Tryz.func115.trans (congrArg some (by kernel_rfl)),
 f286 := Tryz.func116.trans (congrArg some (by kernel_rfl)),
 f317 := Tryz.func132.trans (congrArg some (by kernel_rfl)),
 f318 := Tryz.func133.trans (congrArg some (by kernel_rfl)),
 f319 := Tryz.func134.trans (congrArg some (by kernel_rfl)),
 f320 := Tryz.func135.trans (congrArg some (by kernel_rfl)),
 f337 := Tryz.func147.trans (congrArg some (by kernel_rfl)),
 f338 := Tryz.func148.trans (congrArg some (by kernel_rfl)),
 t0 := Tryz.underlying0,
 a0 := Tryz.isAgg0,
 z0 := Tryz.sizeOf0,
 v0 := Tryz.zeroValue0,
 t2 := Tryz.underlying2,
 a2 := Tryz.isAgg2,
 z2 := Tryz.sizeOf2,
 v2 := Tryz.zeroValue2,
 t3 := Tryz.underlying3,
 a3 := Tryz.isAgg3,
 z3 := Tryz.sizeOf3,
 v3 := Tryz.zeroValue3,
 t4 := Tryz.underlying4,
 a4 := Tryz.isAgg4,
 z4 := Tryz.sizeOf4,
 v4 := Tryz.zeroValue4,
 t5 := Tryz.underlying5,
 a5 := Tryz.isAgg5,
 z5 := Tryz.sizeOf5,
 v5 := Tryz.zeroValue5,
 t9 := Tryz.underlying9,
 a9 := Tryz.isAgg9,
 z9 := Tryz.sizeOf9,
 v9 := Tryz.zeroValue9,
 t20 := Tryz.underlying20,
 a20 := Tryz.isAgg20,
 z20 := Tryz.sizeOf20,
 v20 := Tryz.zeroValue20,
 t37 := Tryz.underlying79,
 a37 := Tryz.isAgg79,
 z37 := Tryz.sizeOf79,
 v37 := Tryz.zeroValue79,
 t46 := Tryz.underlying144,
 a46 := Tryz.isAgg144,
 z46 := Tryz.sizeOf144,
 v46 := Tryz.zeroValue144,
 t51 := Tryz.underlying172,
 a51 := Tryz.isAgg172,
 z51 := Tryz.sizeOf172,
 v51 := Tryz.zeroValue172,
 t53 := Tryz.underlying174,
 a53 := Tryz.isAgg174,
 z53 := Tryz.sizeOf174,
 v53 := Tryz.zeroValue174,
 t171 := Tryz.underlying179,
 a171 := Tryz.isAgg179,
 z171 := Tryz.sizeOf179,
 v171 := Tryz.zeroValue179,
 t173 := Tryz.underlying181,
 a173 := Tryz.isAgg181,
 z173 := Tryz.sizeOf181,
 v173 := Tryz.zeroValue181,
 t212 := Tryz.underlying201,
 a212 := Tryz.isAgg201,
 z212 := Tryz.sizeOf201,
 v212 := Tryz.zeroValue201,
 t213 := Tryz.underlying202,
 a213 := Tryz.isAgg202,
 z213 := Tryz.sizeOf202,
 t232 := Tryz.underlying217,
 a232 := Tryz.isAgg217,
 z232 := Tryz.sizeOf217,
 v232 := Tryz.zeroValue217,
 t233 := Tryz.underlying218,
 a233 := Tryz.isAgg218,
 z233 := Tryz.sizeOf218,
 v233 := Tryz.zeroValue218,
 g17 := by kernel_rfl,
 g18 := by kernel_rfl,
 g19 := by kernel_rfl,
 i0 := by kernel_rfl,
 i2 := by kernel_rfl,
 i3 := by kernel_rfl,
 i4 := by kernel_rfl,
 i5 := by kernel_rfl,
 i9 := by kernel_rfl,
 i20 := by kernel_rfl,
 i37 := by kernel_rfl,
 i46 := by kernel_rfl,
 i51 := by kernel_rfl,
 i53 := by kernel_rfl,
 i171 := by kernel_rfl,
 i173 := by kernel_rfl,
 i212 := by kernel_rfl,
 i232 := by kernel_rfl,
 i233 := by kernel_rfl,
 m17 := by kernel_rfl,
 m18 := by kernel_rfl,
 m19 := by kernel_rfl }
theorem Yu {w0 w : World} {s : PHeap} {H : List Res} {n : Int} {r : ByteArray} (hm : Jc n = some r) (hS : St w0 s H w) (ht : TabS Tryz.prog s) :
  Calls Tryz.prog 30 #[.int .i64 n] w fun e w' => ∃ v, e = .returned v ∧ ((fun (y : ByteArray) => ∃ (s' : PHeap), PHeap.le s s' ∧ St w0 s' H w' ∧ v = Value.string y) r) := by
 unfold Jc at hm
 split at hm
 ·rename_i hc
  have hr := Zu hm
  subst hr
  refine (Any.strconv_Itoa Qmw n hc.1 hc.2 w (ht.here hS)).mono ?_
  rintro e w' ⟨rfl, k, os, rfl⟩
  exact ⟨_, Z, s, Zv _, hS.grown k os, Z⟩
 ·cases hm
end Go.Pw
