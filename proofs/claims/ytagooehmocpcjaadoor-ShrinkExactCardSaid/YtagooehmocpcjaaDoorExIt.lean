/-
  strconv.Itoa, by the shelf's contract.
-/
import Derived.Test.YtagooehmocpcjaaDoorEx1
import Derived.Test.YtagooehmocpcjaaDoorL22
import Derived.Test.YtagooehmocpcjaaDoorProg
import Derived.KernelRfl
set_option maxRecDepth 100000
set_option maxHeartbeats 4000000
set_option linter.unusedSimpArgs false
set_option linter.unusedVariables false
namespace Go.Pw
open Go.Proofs Go.Shelf Go.RowKit Go.Lib
def lay41_ren : Go.Shelf.Ren := ⟨fun | 171 => 41 | 243 => 62 | 246 => 71 | 283 => 90 | 284 => 91 | 285 => 92 | 286 => 93 | 129 => 81 | 317 => 102 | 318 => 103 | 319 => 104 | 320 => 105 | 337 => 108 | 338 => 109 | n => n, fun | 3 => 3 | 9 => 9 | 2 => 2 | 4 => 4 | 171 => 128 | 0 => 0 | 53 => 122 | 37 => 69 | 5 => 5 | 173 => 130 | 212 => 142 | 51 => 120 | 20 => 20 | 213 => 143 | 46 => 106 | 232 => 147 | 233 => 148 | n => n, fun | 17 => 0 | 18 => 1 | 19 => 2 | n => n⟩
theorem lay41 : Go.Proofs.LaysM.n171 Tryd.prog lay41_ren := {
  mixed := by kernel_rfl,
  f129 := Tryd.func81.trans (congrArg some (by kernel_rfl)),
  f171 := Tryd.func41.trans (congrArg some (by kernel_rfl)),
  f243 := Tryd.func62.trans (congrArg some (by kernel_rfl)),
  f246 := Tryd.func71.trans (congrArg some (by kernel_rfl)),
  f283 := Tryd.func90.trans (congrArg some (by kernel_rfl)),
  f284 := Tryd.func91.trans (congrArg some (by kernel_rfl)),
  f285 := Tryd.func92.trans (congrArg some (by kernel_rfl)),
  f286 := Tryd.func93.trans (congrArg some (by kernel_rfl)),
  f317 := Tryd.func102.trans (congrArg some (by kernel_rfl)),
  f318 := Tryd.func103.trans (congrArg some (by kernel_rfl)),
  f319 := Tryd.func104.trans (congrArg some (by kernel_rfl)),
  f320 := Tryd.func105.trans (congrArg some (by kernel_rfl)),
  f337 := Tryd.func108.trans (congrArg some (by kernel_rfl)),
  f338 := Tryd.func109.trans (congrArg some (by kernel_rfl)),
  t0 := Tryd.underlying0,
  a0 := Tryd.isAgg0,
  z0 := Tryd.sizeOf0,
  v0 := Tryd.zeroValue0,
  t2 := Tryd.underlying2,
  a2 := Tryd.isAgg2,
  z2 := Tryd.sizeOf2,
  v2 := Tryd.zeroValue2,
  t3 := Tryd.underlying3,
  a3 := Tryd.isAgg3,
  z3 := Tryd.sizeOf3,
  v3 := Tryd.zeroValue3,
  t4 := Tryd.underlying4,
  a4 := Tryd.isAgg4,
  z4 := Tryd.sizeOf4,
  v4 := Tryd.zeroValue4,
  t5 := Tryd.underlying5,
  a5 := Tryd.isAgg5,
  z5 := Tryd.sizeOf5,
  v5 := Tryd.zeroValue5,
  t9 := Tryd.underlying9,
  a9 := Tryd.isAgg9,
  z9 := Tryd.sizeOf9,
  v9 := Tryd.zeroValue9,
  t20 := Tryd.underlying20,
  a20 := Tryd.isAgg20,
  z20 := Tryd.sizeOf20,
  v20 := Tryd.zeroValue20,
  t37 := Tryd.underlying69,
  a37 := Tryd.isAgg69,
  z37 := Tryd.sizeOf69,
  v37 := Tryd.zeroValue69,
  t46 := Tryd.underlying106,
  a46 := Tryd.isAgg106,
  z46 := Tryd.sizeOf106,
  v46 := Tryd.zeroValue106,
  t51 := Tryd.underlying120,
  a51 := Tryd.isAgg120,
  z51 := Tryd.sizeOf120,
  v51 := Tryd.zeroValue120,
  t53 := Tryd.underlying122,
  a53 := Tryd.isAgg122,
  z53 := Tryd.sizeOf122,
  v53 := Tryd.zeroValue122,
  t171 := Tryd.underlying128,
  a171 := Tryd.isAgg128,
  z171 := Tryd.sizeOf128,
  v171 := Tryd.zeroValue128,
  t173 := Tryd.underlying130,
  a173 := Tryd.isAgg130,
  z173 := Tryd.sizeOf130,
  v173 := Tryd.zeroValue130,
  t212 := Tryd.underlying142,
  a212 := Tryd.isAgg142,
  z212 := Tryd.sizeOf142,
  v212 := Tryd.zeroValue142,
  t213 := Tryd.underlying143,
  a213 := Tryd.isAgg143,
  z213 := Tryd.sizeOf143,
  t232 := Tryd.underlying147,
  a232 := Tryd.isAgg147,
  z232 := Tryd.sizeOf147,
  v232 := Tryd.zeroValue147,
  t233 := Tryd.underlying148,
  a233 := Tryd.isAgg148,
  z233 := Tryd.sizeOf148,
  v233 := Tryd.zeroValue148,
  g17 := by kernel_rfl,
  g18 := by kernel_rfl,
  g19 := by kernel_rfl,
  i0 := by kernel_rfl,
  i2 := by kernel_rfl,
  i3 := by kernel_rfl,
  i4 := by kernel_rfl,
  i5 := by kernel_rfl,
  i9 := by kernel_rfl,
  i20 := by kernel_rfl,
  i37 := by kernel_rfl,
  i46 := by kernel_rfl,
  i51 := by kernel_rfl,
  i53 := by kernel_rfl,
  i171 := by kernel_rfl,
  i173 := by kernel_rfl,
  i212 := by kernel_rfl,
  i232 := by kernel_rfl,
  i233 := by kernel_rfl,
  m17 := by kernel_rfl,
  m18 := by kernel_rfl,
  m19 := by kernel_rfl }
theorem strconv_Itoa_sim {w0 w : World} {s : PHeap} {H : List Res} {n : Int} {r : ByteArray} (hm : strconv_Itoa_p n = some r) (hS : St w0 s H w) (ht : TabS Tryd.prog s) :
    Calls Tryd.prog 41 #[.int .i64 n] w fun e w' => ∃ v, e = .returned v ∧ ((fun (y : ByteArray) => ∃ (s' : PHeap), PHeap.le s s' ∧ St w0 s' H w' ∧ v = Value.string y) r) := by
  unfold strconv_Itoa_p at hm
  split at hm
  · rename_i hc
    have hr := Option.some.inj hm
    subst hr
    refine (Any.strconv_Itoa lay41 n hc.1 hc.2 w (ht.here hS)).mono ?_
    rintro e w' ⟨rfl, k, os, rfl⟩
    exact ⟨_, rfl, s, PHeap.le_refl _, hS.grown k os, rfl⟩
  · cases hm
end Go.Pw
