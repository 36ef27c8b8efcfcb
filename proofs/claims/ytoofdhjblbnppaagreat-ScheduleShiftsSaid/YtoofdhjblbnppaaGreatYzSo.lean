/-
  The library's sort of integers, as the walks call it.
-/
import Derived.Test.YtoofdhjblbnppaaGreatYz0
import Derived.Test.YtoofdhjblbnppaaGreatL24
set_option maxHeartbeats 4000000
set_option linter.unusedSimpArgs false
set_option linter.unusedVariables false
namespace Go.Pw
open Go.Proofs Go.Shelf Go.RowKit Go.Lib Go.Sort
def lay50_ren : Go.Shelf.Ren := ⟨fun | 189 => 50 | 125 => 76 | 257 => 75 | 128 => 94 | 129 => 95 | 294 => 85 | 295 => 86 | 296 => 87 | 297 => 88 | 298 => 89 | 299 => 90 | 216 => 91 | 300 => 92 | 301 => 93 | 328 => 109 | 329 => 110 | 330 => 111 | 331 => 112 | 332 => 113 | 215 => 80 | 343 => 118 | n => n, fun | 28 => 22 | 3 => 3 | 46 => 129 | 0 => 0 | 51 => 147 | 53 => 149 | 4 => 4 | 183 => 139 | 182 => 138 | 131 => 144 | 5 => 5 | 9 => 9 | 218 => 157 | 222 => 161 | 228 => 166 | 229 => 167 | n => n, fun | n => n⟩
theorem lay50 : Go.Proofs.Lays.n189 Tryz.prog lay50_ren := {
  mixed := by kernel_rfl,
  f125 := Tryz.func76.trans (congrArg some (by kernel_rfl)),
  f128 := Tryz.func94.trans (congrArg some (by kernel_rfl)),
  f129 := Tryz.func95.trans (congrArg some (by kernel_rfl)),
  f189 := Tryz.func50.trans (congrArg some (by kernel_rfl)),
  f215 := Tryz.func80.trans (congrArg some (by kernel_rfl)),
  f216 := Tryz.func91.trans (congrArg some (by kernel_rfl)),
  f257 := Tryz.func75.trans (congrArg some (by kernel_rfl)),
  f294 := Tryz.func85.trans (congrArg some (by kernel_rfl)),
  f295 := Tryz.func86.trans (congrArg some (by kernel_rfl)),
  f296 := Tryz.func87.trans (congrArg some (by kernel_rfl)),
  f297 := Tryz.func88.trans (congrArg some (by kernel_rfl)),
  f298 := Tryz.func89.trans (congrArg some (by kernel_rfl)),
  f299 := Tryz.func90.trans (congrArg some (by kernel_rfl)),
  f300 := Tryz.func92.trans (congrArg some (by kernel_rfl)),
  f301 := Tryz.func93.trans (congrArg some (by kernel_rfl)),
  f328 := Tryz.func109.trans (congrArg some (by kernel_rfl)),
  f329 := Tryz.func110.trans (congrArg some (by kernel_rfl)),
  f330 := Tryz.func111.trans (congrArg some (by kernel_rfl)),
  f331 := Tryz.func112.trans (congrArg some (by kernel_rfl)),
  f332 := Tryz.func113.trans (congrArg some (by kernel_rfl)),
  f343 := Tryz.func118.trans (congrArg some (by kernel_rfl)),
  t0 := Tryz.underlying0,
  a0 := Tryz.isAgg0,
  z0 := Tryz.sizeOf0,
  v0 := Tryz.zeroValue0,
  t3 := Tryz.underlying3,
  a3 := Tryz.isAgg3,
  z3 := Tryz.sizeOf3,
  v3 := Tryz.zeroValue3,
  t4 := Tryz.underlying4,
  a4 := Tryz.isAgg4,
  z4 := Tryz.sizeOf4,
  v4 := Tryz.zeroValue4,
  t5 := Tryz.underlying5,
  a5 := Tryz.isAgg5,
  z5 := Tryz.sizeOf5,
  v5 := Tryz.zeroValue5,
  t9 := Tryz.underlying9,
  a9 := Tryz.isAgg9,
  z9 := Tryz.sizeOf9,
  v9 := Tryz.zeroValue9,
  t28 := Tryz.underlying22,
  a28 := Tryz.isAgg22,
  z28 := Tryz.sizeOf22,
  v28 := Tryz.zeroValue22,
  t46 := Tryz.underlying129,
  a46 := Tryz.isAgg129,
  z46 := Tryz.sizeOf129,
  v46 := Tryz.zeroValue129,
  t51 := Tryz.underlying147,
  a51 := Tryz.isAgg147,
  z51 := Tryz.sizeOf147,
  v51 := Tryz.zeroValue147,
  t53 := Tryz.underlying149,
  a53 := Tryz.isAgg149,
  z53 := Tryz.sizeOf149,
  v53 := Tryz.zeroValue149,
  t131 := Tryz.underlying144,
  a131 := Tryz.isAgg144,
  z131 := Tryz.sizeOf144,
  v131 := Tryz.zeroValue144,
  t182 := Tryz.underlying138,
  a182 := Tryz.isAgg138,
  z182 := Tryz.sizeOf138,
  v182 := Tryz.zeroValue138,
  t183 := Tryz.underlying139,
  a183 := Tryz.isAgg139,
  z183 := Tryz.sizeOf139,
  v183 := Tryz.zeroValue139,
  t218 := Tryz.underlying157,
  a218 := Tryz.isAgg157,
  z218 := Tryz.sizeOf157,
  v218 := Tryz.zeroValue157,
  t222 := Tryz.underlying161,
  a222 := Tryz.isAgg161,
  z222 := Tryz.sizeOf161,
  v222 := Tryz.zeroValue161,
  t228 := Tryz.underlying166,
  a228 := Tryz.isAgg166,
  z228 := Tryz.sizeOf166,
  v228 := Tryz.zeroValue166,
  t229 := Tryz.underlying167,
  a229 := Tryz.isAgg167,
  z229 := Tryz.sizeOf167,
  v229 := Tryz.zeroValue167 }
theorem sortInts_sim {w0 w : World} {s : PHeap} {H : List Res} {xs : List Int} {v : Value} {r : List Int} (hm : sortInts_p xs = some r) (hS : St w0 s (Res.arr (encInt .i64) 3 v xs :: H) w) :
    Calls Tryz.prog 50 #[v] w fun e w' => ∃ u, e = .returned u ∧ ((fun (l : List Int) => ∃ (s' : PHeap), PHeap.le s s' ∧ St w0 s' (Res.arr (encInt .i64) 3 v l :: H) w' ∧ u = Value.tuple #[]) r) := by
  unfold sortInts_p at hm
  split at hm
  · rename_i hlen
    have hr := Zu hm
    subst hr
    refine (sortI_arr lay50 hlen hS).mono ?_
    rintro e w' ⟨rfl, hS'⟩
    exact ⟨_, rfl, s, Zv _, hS', rfl⟩
  · cases hm
end Go.Pw
