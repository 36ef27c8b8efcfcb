/-
  The library's sort of integers, as the walks call it.
-/
import Derived.Test.YtdhfofhginfdnaaWh2
import Derived.Test.YtdhfofhginfdnaaL24
set_option maxHeartbeats 4000000
set_option linter.unusedSimpArgs false
set_option linter.unusedVariables false
namespace Go.Pw
open Go.Proofs Go.Shelf Go.RowKit Go.Lib Go.Sort
def lay78_ren : Go.Shelf.Ren := ⟨fun | 189 => 78 | 125 => 54 | 257 => 95 | 128 => 73 | 129 => 74 | 294 => 101 | 295 => 102 | 296 => 103 | 297 => 104 | 298 => 105 | 299 => 106 | 216 => 107 | 300 => 108 | 301 => 109 | 328 => 111 | 329 => 84 | 330 => 85 | 331 => 112 | 332 => 113 | 215 => 75 | 343 => 114 | n => n, fun | 28 => 22 | 3 => 3 | 46 => 96 | 0 => 0 | 51 => 119 | 53 => 121 | 4 => 4 | 183 => 113 | 182 => 112 | 131 => 73 | 5 => 5 | 9 => 9 | 218 => 129 | 222 => 133 | 228 => 142 | 229 => 143 | n => n, fun | n => n⟩
theorem lay78 : Go.Proofs.Lays.n189 Try.prog lay78_ren := {
  mixed := by kernel_rfl,
  f125 := Try.func54.trans (congrArg some (by kernel_rfl)),
  f128 := Try.func73.trans (congrArg some (by kernel_rfl)),
  f129 := Try.func74.trans (congrArg some (by kernel_rfl)),
  f189 := Try.func78.trans (congrArg some (by kernel_rfl)),
  f215 := Try.func75.trans (congrArg some (by kernel_rfl)),
  f216 := Try.func107.trans (congrArg some (by kernel_rfl)),
  f257 := Try.func95.trans (congrArg some (by kernel_rfl)),
  f294 := Try.func101.trans (congrArg some (by kernel_rfl)),
  f295 := Try.func102.trans (congrArg some (by kernel_rfl)),
  f296 := Try.func103.trans (congrArg some (by kernel_rfl)),
  f297 := Try.func104.trans (congrArg some (by kernel_rfl)),
  f298 := Try.func105.trans (congrArg some (by kernel_rfl)),
  f299 := Try.func106.trans (congrArg some (by kernel_rfl)),
  f300 := Try.func108.trans (congrArg some (by kernel_rfl)),
  f301 := Try.func109.trans (congrArg some (by kernel_rfl)),
  f328 := Try.func111.trans (congrArg some (by kernel_rfl)),
  f329 := Try.func84.trans (congrArg some (by kernel_rfl)),
  f330 := Try.func85.trans (congrArg some (by kernel_rfl)),
  f331 := Try.func112.trans (congrArg some (by kernel_rfl)),
  f332 := Try.func113.trans (congrArg some (by kernel_rfl)),
  f343 := Try.func114.trans (congrArg some (by kernel_rfl)),
  t0 := Try.underlying0,
  a0 := Try.isAgg0,
  z0 := Try.sizeOf0,
  v0 := Try.zeroValue0,
  t3 := Try.underlying3,
  a3 := Try.isAgg3,
  z3 := Try.sizeOf3,
  v3 := Try.zeroValue3,
  t4 := Try.underlying4,
  a4 := Try.isAgg4,
  z4 := Try.sizeOf4,
  v4 := Try.zeroValue4,
  t5 := Try.underlying5,
  a5 := Try.isAgg5,
  z5 := Try.sizeOf5,
  v5 := Try.zeroValue5,
  t9 := Try.underlying9,
  a9 := Try.isAgg9,
  z9 := Try.sizeOf9,
  v9 := Try.zeroValue9,
  t28 := Try.underlying22,
  a28 := Try.isAgg22,
  z28 := Try.sizeOf22,
  v28 := Try.zeroValue22,
  t46 := Try.underlying96,
  a46 := Try.isAgg96,
  z46 := Try.sizeOf96,
  v46 := Try.zeroValue96,
  t51 := Try.underlying119,
  a51 := Try.isAgg119,
  z51 := Try.sizeOf119,
  v51 := Try.zeroValue119,
  t53 := Try.underlying121,
  a53 := Try.isAgg121,
  z53 := Try.sizeOf121,
  v53 := Try.zeroValue121,
  t131 := Try.underlying73,
  a131 := Try.isAgg73,
  z131 := Try.sizeOf73,
  v131 := Try.zeroValue73,
  t182 := Try.underlying112,
  a182 := Try.isAgg112,
  z182 := Try.sizeOf112,
  v182 := Try.zeroValue112,
  t183 := Try.underlying113,
  a183 := Try.isAgg113,
  z183 := Try.sizeOf113,
  v183 := Try.zeroValue113,
  t218 := Try.underlying129,
  a218 := Try.isAgg129,
  z218 := Try.sizeOf129,
  v218 := Try.zeroValue129,
  t222 := Try.underlying133,
  a222 := Try.isAgg133,
  z222 := Try.sizeOf133,
  v222 := Try.zeroValue133,
  t228 := Try.underlying142,
  a228 := Try.isAgg142,
  z228 := Try.sizeOf142,
  v228 := Try.zeroValue142,
  t229 := Try.underlying143,
  a229 := Try.isAgg143,
  z229 := Try.sizeOf143,
  v229 := Try.zeroValue143 }
theorem sortInts_sim {w0 w : World} {s : PHeap} {H : List Res} {xs : List Int} {v : Value} {r : List Int} (hm : sortInts_p xs = some r) (hS : St w0 s (Res.arr (encInt .i64) 3 v xs :: H) w) :
    Calls Try.prog 78 #[v] w fun e w' => ∃ u, e = .returned u ∧ ((fun (l : List Int) => ∃ (s' : PHeap), PHeap.le s s' ∧ St w0 s' (Res.arr (encInt .i64) 3 v l :: H) w' ∧ u = Value.tuple #[]) r) := by
  unfold sortInts_p at hm
  split at hm
  · rename_i hlen
    have hr := Zu hm
    subst hr
    refine (sortI_arr lay78 hlen hS).mono ?_
    rintro e w' ⟨rfl, hS'⟩
    exact ⟨_, rfl, s, Zv _, hS', rfl⟩
  · cases hm
end Go.Pw
