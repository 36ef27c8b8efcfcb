/-
  The library's sort of integers, as the walks call it.
-/
import Derived.Test.YthbgcahoknmmmaaRa0
import Derived.Test.YthbgcahoknmmmaaL24
set_option maxHeartbeats 4000000
set_option linter.unusedSimpArgs false
set_option linter.unusedVariables false
namespace Go.Pw
open Go.Proofs Go.Shelf Go.RowKit Go.Lib Go.Sort
def lay34_ren : Go.Shelf.Ren := ⟨fun | 189 => 34 | 125 => 59 | 257 => 58 | 128 => 76 | 129 => 77 | 294 => 67 | 295 => 68 | 296 => 69 | 297 => 70 | 298 => 71 | 299 => 72 | 216 => 73 | 300 => 74 | 301 => 75 | 328 => 90 | 329 => 91 | 330 => 92 | 331 => 93 | 332 => 94 | 215 => 62 | 343 => 100 | n => n, fun | 28 => 22 | 3 => 3 | 46 => 114 | 0 => 0 | 51 => 130 | 53 => 132 | 4 => 4 | 183 => 122 | 182 => 121 | 131 => 127 | 5 => 5 | 9 => 9 | 218 => 141 | 222 => 145 | 228 => 150 | 229 => 151 | n => n, fun | n => n⟩
theorem lay34 : Go.Proofs.Lays.n189 Try.prog lay34_ren := {
  mixed := by kernel_rfl,
  f125 := Try.func59.trans (congrArg some (by kernel_rfl)),
  f128 := Try.func76.trans (congrArg some (by kernel_rfl)),
  f129 := Try.func77.trans (congrArg some (by kernel_rfl)),
  f189 := Try.func34.trans (congrArg some (by kernel_rfl)),
  f215 := Try.func62.trans (congrArg some (by kernel_rfl)),
  f216 := Try.func73.trans (congrArg some (by kernel_rfl)),
  f257 := Try.func58.trans (congrArg some (by kernel_rfl)),
  f294 := Try.func67.trans (congrArg some (by kernel_rfl)),
  f295 := Try.func68.trans (congrArg some (by kernel_rfl)),
  f296 := Try.func69.trans (congrArg some (by kernel_rfl)),
  f297 := Try.func70.trans (congrArg some (by kernel_rfl)),
  f298 := Try.func71.trans (congrArg some (by kernel_rfl)),
  f299 := Try.func72.trans (congrArg some (by kernel_rfl)),
  f300 := Try.func74.trans (congrArg some (by kernel_rfl)),
  f301 := Try.func75.trans (congrArg some (by kernel_rfl)),
  f328 := Try.func90.trans (congrArg some (by kernel_rfl)),
  f329 := Try.func91.trans (congrArg some (by kernel_rfl)),
  f330 := Try.func92.trans (congrArg some (by kernel_rfl)),
  f331 := Try.func93.trans (congrArg some (by kernel_rfl)),
  f332 := Try.func94.trans (congrArg some (by kernel_rfl)),
  f343 := Try.func100.trans (congrArg some (by kernel_rfl)),
  t0 := Try.underlying0,
  a0 := Try.isAgg0,
  z0 := Try.sizeOf0,
  v0 := Try.zeroValue0,
  t3 := Try.underlying3,
  a3 := Try.isAgg3,
  z3 := Try.sizeOf3,
  v3 := Try.zeroValue3,
  t4 := Try.underlying4,
  a4 := Try.isAgg4,
  z4 := Try.sizeOf4,
  v4 := Try.zeroValue4,
  t5 := Try.underlying5,
  a5 := Try.isAgg5,
  z5 := Try.sizeOf5,
  v5 := Try.zeroValue5,
  t9 := Try.underlying9,
  a9 := Try.isAgg9,
  z9 := Try.sizeOf9,
  v9 := Try.zeroValue9,
  t28 := Try.underlying22,
  a28 := Try.isAgg22,
  z28 := Try.sizeOf22,
  v28 := Try.zeroValue22,
  t46 := Try.underlying114,
  a46 := Try.isAgg114,
  z46 := Try.sizeOf114,
  v46 := Try.zeroValue114,
  t51 := Try.underlying130,
  a51 := Try.isAgg130,
  z51 := Try.sizeOf130,
  v51 := Try.zeroValue130,
  t53 := Try.underlying132,
  a53 := Try.isAgg132,
  z53 := Try.sizeOf132,
  v53 := Try.zeroValue132,
  t131 := Try.underlying127,
  a131 := Try.isAgg127,
  z131 := Try.sizeOf127,
  v131 := Try.zeroValue127,
  t182 := Try.underlying121,
  a182 := Try.isAgg121,
  z182 := Try.sizeOf121,
  v182 := Try.zeroValue121,
  t183 := Try.underlying122,
  a183 := Try.isAgg122,
  z183 := Try.sizeOf122,
  v183 := Try.zeroValue122,
  t218 := Try.underlying141,
  a218 := Try.isAgg141,
  z218 := Try.sizeOf141,
  v218 := Try.zeroValue141,
  t222 := Try.underlying145,
  a222 := Try.isAgg145,
  z222 := Try.sizeOf145,
  v222 := Try.zeroValue145,
  t228 := Try.underlying150,
  a228 := Try.isAgg150,
  z228 := Try.sizeOf150,
  v228 := Try.zeroValue150,
  t229 := Try.underlying151,
  a229 := Try.isAgg151,
  z229 := Try.sizeOf151,
  v229 := Try.zeroValue151 }
theorem sortInts_sim {w0 w : World} {s : PHeap} {H : List Res} {xs : List Int} {v : Value} {r : List Int} (hm : sortInts_p xs = some r) (hS : St w0 s (Res.arr (encInt .i64) 3 v xs :: H) w) :
    Calls Try.prog 34 #[v] w fun e w' => ∃ u, e = .returned u ∧ ((fun (l : List Int) => ∃ (s' : PHeap), PHeap.le s s' ∧ St w0 s' (Res.arr (encInt .i64) 3 v l :: H) w' ∧ u = Value.tuple #[]) r) := by
  unfold sortInts_p at hm
  split at hm
  · rename_i hlen
    have hr := Zu hm
    subst hr
    refine (sortI_arr lay34 hlen hS).mono ?_
    rintro e w' ⟨rfl, hS'⟩
    exact ⟨_, rfl, s, Zv _, hS', rfl⟩
  · cases hm
end Go.Pw
