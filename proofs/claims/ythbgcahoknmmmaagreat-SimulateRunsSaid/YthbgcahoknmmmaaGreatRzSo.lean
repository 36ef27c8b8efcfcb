/-
  The library's sort of integers, as the walks call it.
-/
import Derived.Test.YthbgcahoknmmmaaGreatRz0
import Derived.Test.YthbgcahoknmmmaaGreatL24
set_option maxHeartbeats 4000000
set_option linter.unusedSimpArgs false
set_option linter.unusedVariables false
namespace Go.Pw
open Go.Proofs Go.Shelf Go.RowKit Go.Lib Go.Sort
def lay70_ren : Go.Shelf.Ren := ⟨fun | 189 => 70 | 125 => 76 | 257 => 82 | 128 => 93 | 129 => 94 | 294 => 96 | 295 => 97 | 296 => 98 | 297 => 99 | 298 => 100 | 299 => 101 | 216 => 102 | 300 => 103 | 301 => 104 | 328 => 114 | 329 => 109 | 330 => 110 | 331 => 115 | 332 => 116 | 215 => 77 | 343 => 120 | n => n, fun | 28 => 22 | 3 => 3 | 46 => 135 | 0 => 0 | 51 => 149 | 53 => 151 | 4 => 4 | 183 => 142 | 182 => 141 | 131 => 146 | 5 => 5 | 9 => 9 | 218 => 161 | 222 => 165 | 228 => 170 | 229 => 171 | n => n, fun | n => n⟩
theorem lay70 : Go.Proofs.Lays.n189 Tryz.prog lay70_ren := {
  mixed := by kernel_rfl,
  f125 := Tryz.func76.trans (congrArg some (by kernel_rfl)),
  f128 := Tryz.func93.trans (congrArg some (by kernel_rfl)),
  f129 := Tryz.func94.trans (congrArg some (by kernel_rfl)),
  f189 := Tryz.func70.trans (congrArg some (by kernel_rfl)),
  f215 := Tryz.func77.trans (congrArg some (by kernel_rfl)),
  f216 := Tryz.func102.trans (congrArg some (by kernel_rfl)),
  f257 := Tryz.func82.trans (congrArg some (by kernel_rfl)),
  f294 := Tryz.func96.trans (congrArg some (by kernel_rfl)),
  f295 := Tryz.func97.trans (congrArg some (by kernel_rfl)),
  f296 := Tryz.func98.trans (congrArg some (by kernel_rfl)),
  f297 := Tryz.func99.trans (congrArg some (by kernel_rfl)),
  f298 := Tryz.func100.trans (congrArg some (by kernel_rfl)),
  f299 := Tryz.func101.trans (congrArg some (by kernel_rfl)),
  f300 := Tryz.func103.trans (congrArg some (by kernel_rfl)),
  f301 := Tryz.func104.trans (congrArg some (by kernel_rfl)),
  f328 := Tryz.func114.trans (congrArg some (by kernel_rfl)),
  f329 := Tryz.func109.trans (congrArg some (by kernel_rfl)),
  f330 := Tryz.func110.trans (congrArg some (by kernel_rfl)),
  f331 := Tryz.func115.trans (congrArg some (by kernel_rfl)),
  f332 := Tryz.func116.trans (congrArg some (by kernel_rfl)),
  f343 := Tryz.func120.trans (congrArg some (by kernel_rfl)),
  t0 := Tryz.underlying0,
  a0 := Tryz.isAgg0,
  z0 := Tryz.sizeOf0,
  v0 := Tryz.zeroValue0,
  t3 := Tryz.underlying3,
  a3 := Tryz.isAgg3,
  z3 := Tryz.sizeOf3,
  v3 := Tryz.zeroValue3,
  t4 := Tryz.underlying4,
  a4 := Tryz.isAgg4,
  z4 := Tryz.sizeOf4,
  v4 := Tryz.zeroValue4,
  t5 := Tryz.underlying5,
  a5 := Tryz.isAgg5,
  z5 := Tryz.sizeOf5,
  v5 := Tryz.zeroValue5,
  t9 := Tryz.underlying9,
  a9 := Tryz.isAgg9,
  z9 := Tryz.sizeOf9,
  v9 := Tryz.zeroValue9,
  t28 := Tryz.underlying22,
  a28 := Tryz.isAgg22,
  z28 := Tryz.sizeOf22,
  v28 := Tryz.zeroValue22,
  t46 := Tryz.underlying135,
  a46 := Tryz.isAgg135,
  z46 := Tryz.sizeOf135,
  v46 := Tryz.zeroValue135,
  t51 := Tryz.underlying149,
  a51 := Tryz.isAgg149,
  z51 := Tryz.sizeOf149,
  v51 := Tryz.zeroValue149,
  t53 := Tryz.underlying151,
  a53 := Tryz.isAgg151,
  z53 := Tryz.sizeOf151,
  v53 := Tryz.zeroValue151,
  t131 := Tryz.underlying146,
  a131 := Tryz.isAgg146,
  z131 := Tryz.sizeOf146,
  v131 := Tryz.zeroValue146,
  t182 := Tryz.underlying141,
  a182 := Tryz.isAgg141,
  z182 := Tryz.sizeOf141,
  v182 := Tryz.zeroValue141,
  t183 := Tryz.underlying142,
  a183 := Tryz.isAgg142,
  z183 := Tryz.sizeOf142,
  v183 := Tryz.zeroValue142,
  t218 := Tryz.underlying161,
  a218 := Tryz.isAgg161,
  z218 := Tryz.sizeOf161,
  v218 := Tryz.zeroValue161,
  t222 := Tryz.underlying165,
  a222 := Tryz.isAgg165,
  z222 := Tryz.sizeOf165,
  v222 := Tryz.zeroValue165,
  t228 := Tryz.underlying170,
  a228 := Tryz.isAgg170,
  z228 := Tryz.sizeOf170,
  v228 := Tryz.zeroValue170,
  t229 := Tryz.underlying171,
  a229 := Tryz.isAgg171,
  z229 := Tryz.sizeOf171,
  v229 := Tryz.zeroValue171 }
theorem sortInts_sim {w0 w : World} {s : PHeap} {H : List Res} {xs : List Int} {v : Value} {r : List Int} (hm : sortInts_p xs = some r) (hS : St w0 s (Res.arr (encInt .i64) 3 v xs :: H) w) :
    Calls Tryz.prog 70 #[v] w fun e w' => ∃ u, e = .returned u ∧ ((fun (l : List Int) => ∃ (s' : PHeap), PHeap.le s s' ∧ St w0 s' (Res.arr (encInt .i64) 3 v l :: H) w' ∧ u = Value.tuple #[]) r) := by
  unfold sortInts_p at hm
  split at hm
  · rename_i hlen
    have hr := Zu hm
    subst hr
    refine (sortI_arr lay70 hlen hS).mono ?_
    rintro e w' ⟨rfl, hS'⟩
    exact ⟨_, rfl, s, Zv _, hS', rfl⟩
  · cases hm
end Go.Pw
