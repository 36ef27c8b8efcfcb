/-
  The library's sort of integers, as the walks call it.
-/
import Derived.Test.YtcabhickgjhkhaaGreatDoorIs4
import Derived.Test.YtcabhickgjhkhaaGreatDoorL24
set_option maxHeartbeats 4000000
set_option linter.unusedSimpArgs false
set_option linter.unusedVariables false
namespace Go.Pw
open Go.Proofs Go.Shelf Go.RowKit Go.Lib Go.Sort
def lay50_ren : Go.Shelf.Ren := ⟨fun | 189 => 50 | 125 => 79 | 257 => 78 | 128 => 99 | 129 => 100 | 294 => 91 | 295 => 92 | 296 => 93 | 297 => 94 | 298 => 95 | 299 => 96 | 216 => 69 | 300 => 97 | 301 => 98 | 328 => 112 | 329 => 113 | 330 => 114 | 331 => 115 | 332 => 116 | 215 => 85 | 343 => 126 | n => n, fun | 28 => 24 | 3 => 3 | 46 => 118 | 0 => 0 | 51 => 153 | 53 => 155 | 4 => 4 | 183 => 147 | 182 => 146 | 131 => 42 | 5 => 5 | 9 => 9 | 218 => 164 | 222 => 168 | 228 => 179 | 229 => 180 | n => n, fun | n => n⟩
theorem lay50 : Go.Proofs.Lays.n189 Tryz.prog lay50_ren := {
  mixed := by kernel_rfl,
  f125 := Tryz.func79.trans (congrArg some (by kernel_rfl)),
  f128 := Tryz.func99.trans (congrArg some (by kernel_rfl)),
  f129 := Tryz.func100.trans (congrArg some (by kernel_rfl)),
  f189 := Tryz.func50.trans (congrArg some (by kernel_rfl)),
  f215 := Tryz.func85.trans (congrArg some (by kernel_rfl)),
  f216 := Tryz.func69.trans (congrArg some (by kernel_rfl)),
  f257 := Tryz.func78.trans (congrArg some (by kernel_rfl)),
  f294 := Tryz.func91.trans (congrArg some (by kernel_rfl)),
  f295 := Tryz.func92.trans (congrArg some (by kernel_rfl)),
  f296 := Tryz.func93.trans (congrArg some (by kernel_rfl)),
  f297 := Tryz.func94.trans (congrArg some (by kernel_rfl)),
  f298 := Tryz.func95.trans (congrArg some (by kernel_rfl)),
  f299 := Tryz.func96.trans (congrArg some (by kernel_rfl)),
  f300 := Tryz.func97.trans (congrArg some (by kernel_rfl)),
  f301 := Tryz.func98.trans (congrArg some (by kernel_rfl)),
  f328 := Tryz.func112.trans (congrArg some (by kernel_rfl)),
  f329 := Tryz.func113.trans (congrArg some (by kernel_rfl)),
  f330 := Tryz.func114.trans (congrArg some (by kernel_rfl)),
  f331 := Tryz.func115.trans (congrArg some (by kernel_rfl)),
  f332 := Tryz.func116.trans (congrArg some (by kernel_rfl)),
  f343 := Tryz.func126.trans (congrArg some (by kernel_rfl)),
  t0 := Tryz.underlying0,
  a0 := Tryz.isAgg0,
  z0 := Tryz.sizeOf0,
  v0 := Tryz.zeroValue0,
  t3 := Tryz.underlying3,
  a3 := Tryz.isAgg3,
  z3 := Tryz.sizeOf3,
  v3 := Tryz.zeroValue3,
  t4 := Tryz.underlying4,
  a4 := Tryz.isAgg4,
  z4 := Tryz.sizeOf4,
  v4 := Tryz.zeroValue4,
  t5 := Tryz.underlying5,
  a5 := Tryz.isAgg5,
  z5 := Tryz.sizeOf5,
  v5 := Tryz.zeroValue5,
  t9 := Tryz.underlying9,
  a9 := Tryz.isAgg9,
  z9 := Tryz.sizeOf9,
  v9 := Tryz.zeroValue9,
  t28 := Tryz.underlying24,
  a28 := Tryz.isAgg24,
  z28 := Tryz.sizeOf24,
  v28 := Tryz.zeroValue24,
  t46 := Tryz.underlying118,
  a46 := Tryz.isAgg118,
  z46 := Tryz.sizeOf118,
  v46 := Tryz.zeroValue118,
  t51 := Tryz.underlying153,
  a51 := Tryz.isAgg153,
  z51 := Tryz.sizeOf153,
  v51 := Tryz.zeroValue153,
  t53 := Tryz.underlying155,
  a53 := Tryz.isAgg155,
  z53 := Tryz.sizeOf155,
  v53 := Tryz.zeroValue155,
  t131 := Tryz.underlying42,
  a131 := Tryz.isAgg42,
  z131 := Tryz.sizeOf42,
  v131 := Tryz.zeroValue42,
  t182 := Tryz.underlying146,
  a182 := Tryz.isAgg146,
  z182 := Tryz.sizeOf146,
  v182 := Tryz.zeroValue146,
  t183 := Tryz.underlying147,
  a183 := Tryz.isAgg147,
  z183 := Tryz.sizeOf147,
  v183 := Tryz.zeroValue147,
  t218 := Tryz.underlying164,
  a218 := Tryz.isAgg164,
  z218 := Tryz.sizeOf164,
  v218 := Tryz.zeroValue164,
  t222 := Tryz.underlying168,
  a222 := Tryz.isAgg168,
  z222 := Tryz.sizeOf168,
  v222 := Tryz.zeroValue168,
  t228 := Tryz.underlying179,
  a228 := Tryz.isAgg179,
  z228 := Tryz.sizeOf179,
  v228 := Tryz.zeroValue179,
  t229 := Tryz.underlying180,
  a229 := Tryz.isAgg180,
  z229 := Tryz.sizeOf180,
  v229 := Tryz.zeroValue180 }
theorem sortInts_sim {w0 w : World} {s : PHeap} {H : List Res} {xs : List Int} {v : Value} {r : List Int} (hm : sortInts_p xs = some r) (hS : St w0 s (Res.arr (encInt .i64) 3 v xs :: H) w) :
    Calls Tryz.prog 50 #[v] w fun e w' => ∃ u, e = .returned u ∧ ((fun (l : List Int) => ∃ (s' : PHeap), PHeap.le s s' ∧ St w0 s' (Res.arr (encInt .i64) 3 v l :: H) w' ∧ u = Value.tuple #[]) r) := by
  unfold sortInts_p at hm
  split at hm
  · rename_i hlen
    have hr := Zu hm
    subst hr
    refine (sortI_arr lay50 hlen hS).mono ?_
    rintro e w' ⟨rfl, hS'⟩
    exact ⟨_, rfl, s, Zv _, hS', rfl⟩
  · cases hm
end Go.Pw
