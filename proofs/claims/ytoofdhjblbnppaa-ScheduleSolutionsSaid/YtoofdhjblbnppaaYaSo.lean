/-
  The library's sort of integers, as the walks call it.
-/
import Derived.Test.YtoofdhjblbnppaaYa0
import Derived.Test.YtoofdhjblbnppaaL24
set_option maxHeartbeats 4000000
set_option linter.unusedSimpArgs false
set_option linter.unusedVariables false
namespace Go.Pw
open Go.Proofs Go.Shelf Go.RowKit Go.Lib Go.Sort
def lay39_ren : Go.Shelf.Ren := ⟨fun | 189 => 39 | 125 => 65 | 257 => 64 | 128 => 82 | 129 => 83 | 294 => 73 | 295 => 74 | 296 => 75 | 297 => 76 | 298 => 77 | 299 => 78 | 216 => 79 | 300 => 80 | 301 => 81 | 328 => 97 | 329 => 98 | 330 => 99 | 331 => 100 | 332 => 101 | 215 => 68 | 343 => 106 | n => n, fun | 28 => 22 | 3 => 3 | 46 => 121 | 0 => 0 | 51 => 141 | 53 => 143 | 4 => 4 | 183 => 133 | 182 => 132 | 131 => 138 | 5 => 5 | 9 => 9 | 218 => 151 | 222 => 155 | 228 => 160 | 229 => 161 | n => n, fun | n => n⟩
theorem lay39 : Go.Proofs.Lays.n189 Try.prog lay39_ren := {
  mixed := by kernel_rfl,
  f125 := Try.func65.trans (congrArg some (by kernel_rfl)),
  f128 := Try.func82.trans (congrArg some (by kernel_rfl)),
  f129 := Try.func83.trans (congrArg some (by kernel_rfl)),
  f189 := Try.func39.trans (congrArg some (by kernel_rfl)),
  f215 := Try.func68.trans (congrArg some (by kernel_rfl)),
  f216 := Try.func79.trans (congrArg some (by kernel_rfl)),
  f257 := Try.func64.trans (congrArg some (by kernel_rfl)),
  f294 := Try.func73.trans (congrArg some (by kernel_rfl)),
  f295 := Try.func74.trans (congrArg some (by kernel_rfl)),
  f296 := Try.func75.trans (congrArg some (by kernel_rfl)),
  f297 := Try.func76.trans (congrArg some (by kernel_rfl)),
  f298 := Try.func77.trans (congrArg some (by kernel_rfl)),
  f299 := Try.func78.trans (congrArg some (by kernel_rfl)),
  f300 := Try.func80.trans (congrArg some (by kernel_rfl)),
  f301 := Try.func81.trans (congrArg some (by kernel_rfl)),
  f328 := Try.func97.trans (congrArg some (by kernel_rfl)),
  f329 := Try.func98.trans (congrArg some (by kernel_rfl)),
  f330 := Try.func99.trans (congrArg some (by kernel_rfl)),
  f331 := Try.func100.trans (congrArg some (by kernel_rfl)),
  f332 := Try.func101.trans (congrArg some (by kernel_rfl)),
  f343 := Try.func106.trans (congrArg some (by kernel_rfl)),
  t0 := Try.underlying0,
  a0 := Try.isAgg0,
  z0 := Try.sizeOf0,
  v0 := Try.zeroValue0,
  t3 := Try.underlying3,
  a3 := Try.isAgg3,
  z3 := Try.sizeOf3,
  v3 := Try.zeroValue3,
  t4 := Try.underlying4,
  a4 := Try.isAgg4,
  z4 := Try.sizeOf4,
  v4 := Try.zeroValue4,
  t5 := Try.underlying5,
  a5 := Try.isAgg5,
  z5 := Try.sizeOf5,
  v5 := Try.zeroValue5,
  t9 := Try.underlying9,
  a9 := Try.isAgg9,
  z9 := Try.sizeOf9,
  v9 := Try.zeroValue9,
  t28 := Try.underlying22,
  a28 := Try.isAgg22,
  z28 := Try.sizeOf22,
  v28 := Try.zeroValue22,
  t46 := Try.underlying121,
  a46 := Try.isAgg121,
  z46 := Try.sizeOf121,
  v46 := Try.zeroValue121,
  t51 := Try.underlying141,
  a51 := Try.isAgg141,
  z51 := Try.sizeOf141,
  v51 := Try.zeroValue141,
  t53 := Try.underlying143,
  a53 := Try.isAgg143,
  z53 := Try.sizeOf143,
  v53 := Try.zeroValue143,
  t131 := Try.underlying138,
  a131 := Try.isAgg138,
  z131 := Try.sizeOf138,
  v131 := Try.zeroValue138,
  t182 := Try.underlying132,
  a182 := Try.isAgg132,
  z182 := Try.sizeOf132,
  v182 := Try.zeroValue132,
  t183 := Try.underlying133,
  a183 := Try.isAgg133,
  z183 := Try.sizeOf133,
  v183 := Try.zeroValue133,
  t218 := Try.underlying151,
  a218 := Try.isAgg151,
  z218 := Try.sizeOf151,
  v218 := Try.zeroValue151,
  t222 := Try.underlying155,
  a222 := Try.isAgg155,
  z222 := Try.sizeOf155,
  v222 := Try.zeroValue155,
  t228 := Try.underlying160,
  a228 := Try.isAgg160,
  z228 := Try.sizeOf160,
  v228 := Try.zeroValue160,
  t229 := Try.underlying161,
  a229 := Try.isAgg161,
  z229 := Try.sizeOf161,
  v229 := Try.zeroValue161 }
theorem sortInts_sim {w0 w : World} {s : PHeap} {H : List Res} {xs : List Int} {v : Value} {r : List Int} (hm : sortInts_p xs = some r) (hS : St w0 s (Res.arr (encInt .i64) 3 v xs :: H) w) :
    Calls Try.prog 39 #[v] w fun e w' => ∃ u, e = .returned u ∧ ((fun (l : List Int) => ∃ (s' : PHeap), PHeap.le s s' ∧ St w0 s' (Res.arr (encInt .i64) 3 v l :: H) w' ∧ u = Value.tuple #[]) r) := by
  unfold sortInts_p at hm
  split at hm
  · rename_i hlen
    have hr := Zu hm
    subst hr
    refine (sortI_arr lay39 hlen hS).mono ?_
    rintro e w' ⟨rfl, hS'⟩
    exact ⟨_, rfl, s, Zv _, hS', rfl⟩
  · cases hm
end Go.Pw
