/- -/
import Derived.Test.YtcpkjkmbdolfnaaGreatDoorMb1
import Derived.Test.YtcpkjkmbdolfnaaGreatDoorL24
set_option maxHeartbeats 4000000
set_option linter.unusedSimpArgs false
set_option linter.unusedVariables false
namespace Go.Pw
open Go.Proofs Go.Shelf Go.RowKit Go.Lib Go.Sort
def Qlq : Go.Shelf.Ren := ⟨fun | 189 => 36 | 125 => 61 | 257 => 60 | 128 => 90 | 129 => 91 | 294 => 81 | 295 => 82 | 296 => 83 | 297 => 84 | 298 => 85 | 299 => 86 | 216 => 87 | 300 => 88 | 301 => 89 | 328 => 109 | 329 => 110 | 330 => 111 | 331 => 112 | 332 => 113 | 215 => 114 | 343 => 135 | n => n, fun | 28 => 22 | 3 => 3 | 46 => 109 | 0 => 0 | 51 => 141 | 53 => 143 | 4 => 4 | 183 => 134 | 182 => 133 | 131 => 111 | 5 => 5 | 9 => 9 | 218 => 162 | 222 => 166 | 228 => 190 | 229 => 148 | n => n, fun | n => n⟩
theorem Qo2 : Go.Proofs.Lays.n189 Tryz.prog Qlq := {
 mixed := by kernel_rfl,
 f125 := Tryz.func61.trans (congrArg some (by kernel_rfl)),
 f128 := Tryz.func90.trans (congrArg some (by kernel_rfl)),
 f129 := Tryz.func91.trans (congrArg some (by kernel_rfl)),
 f189 := Tryz.func36.trans (congrArg some (by kernel_rfl)),
 f215 := Tryz.func114.trans (congrArg some (by kernel_rfl)),
 f216 := Tryz.func87.trans (congrArg some (by kernel_rfl)),
 f257 := Tryz.func60.trans (congrArg some (by kernel_rfl)),
 f294 := Tryz.func81.trans (congrArg some (by kernel_rfl)),
 f295 := Tryz.func82.trans (congrArg some (by kernel_rfl)),
 f296 := Tryz.func83.trans (congrArg some (by kernel_rfl)),
 f297 := Tryz.func84.trans (congrArg some (by kernel_rfl)),
 f298 := Tryz.func85.trans (congrArg some (by kernel_rfl)),
 f299 := Tryz.func86.trans (congrArg some (by kernel_rfl)),
 f300 := Tryz.func88.trans (congrArg some (by kernel_rfl)),
 f301 := Tryz.func89.trans (congrArg some (by kernel_rfl)),
 f328 := Tryz.func109.trans (congrArg some (by kernel_rfl)),
 f329 := Tryz.func110.trans (congrArg some (by kernel_rfl)),
 f330 := Tryz.func111.trans (congrArg some (by kernel_rfl)),
 f331 := Tryz.func112.trans (congrArg some (by kernel_rfl)),
 f332 := Tryz.func113.trans (congrArg some (by kernel_rfl)),
 f343 := Tryz.func135.trans (congrArg some (by kernel_rfl)),
 t0 := Tryz.underlying0,
 a0 := Tryz.isAgg0,
 z0 := Tryz.sizeOf0,
 v0 := Tryz.zeroValue0,
 t3 := Tryz.underlying3,
 a3 := Tryz.isAgg3,
 z3 := Tryz.sizeOf3,
 v3 := Tryz.zeroValue3,
 t4 := Tryz.underlying4,
 a4 := Tryz.isAgg4,
 z4 := Tryz.sizeOf4,
 v4 := Tryz.zeroValue4,
 t5 := Tryz.underlying5,
 a5 := Tryz.isAgg5,
 z5 := Tryz.sizeOf5,
 v5 := Tryz.zeroValue5,
 t9 := Tryz.underlying9,
 a9 := Tryz.isAgg9,
 z9 := Tryz.sizeOf9,
 v9 := Tryz.zeroValue9,
 t28 := Tryz.underlying22,
 a28 := Tryz.isAgg22,
 z28 := Tryz.sizeOf22,
 v28 := Tryz.zeroValue22,
 t46 := Tryz.underlying109,
 a46 := Tryz.isAgg109,
 z46 := Tryz.sizeOf109,
 v46 := Tryz.zeroValue109,
 t51 := Tryz.underlying141,
 a51 := Tryz.isAgg141,
 z51 := Tryz.sizeOf141,
 v51 := Tryz.zeroValue141,
 t53 := Tryz.underlying143,
 a53 := Tryz.isAgg143,
 z53 := Tryz.sizeOf143,
 v53 := Tryz.zeroValue143,
 t131 := Tryz.underlying111,
 a131 := Tryz.isAgg111,
 z131 := Tryz.sizeOf111,
 v131 := Tryz.zeroValue111,
 t182 := Tryz.underlying133,
 a182 := Tryz.isAgg133,
 z182 := Tryz.sizeOf133,
 v182 := Tryz.zeroValue133,
 t183 := Tryz.underlying134,
 a183 := Tryz.isAgg134,
 z183 := Tryz.sizeOf134,
 v183 := Tryz.zeroValue134,
 t218 := Tryz.underlying162,
 a218 := Tryz.isAgg162,
 z218 := Tryz.sizeOf162,
 v218 := Tryz.zeroValue162,
 t222 := Tryz.underlying166,
 a222 := Tryz.isAgg166,
 z222 := Tryz.sizeOf166,
 v222 := Tryz.zeroValue166,
 t228 := Tryz.underlying190,
 a228 := Tryz.isAgg190,
 z228 := Tryz.sizeOf190,
 v228 := Tryz.zeroValue190,
 t229 := Tryz.underlying148,
 a229 := Tryz.isAgg148,
 z229 := Tryz.sizeOf148,
 v229 := Tryz.zeroValue148 }
theorem QcI {w0 w : World} {s : PHeap} {H : List Res} {xs : List Int} {v : Value} {r : List Int} (hm : Y5 xs = some r) (hS : St w0 s (Res.arr (U .i64) 3 v xs :: H) w) :
  Calls Tryz.prog 36 #[v] w fun e w' => ∃ u, e = .returned u ∧ ((fun (l : List Int) => ∃ (s' : PHeap), PHeap.le s s' ∧ St w0 s' (Res.arr (U .i64) 3 v l :: H) w' ∧ u = Value.tuple #[]) r) := by
 unfold Y5 at hm
 split at hm
 ·rename_i hlen
  have hr := Zu hm
  subst hr
  refine (Qle Qo2 hlen hS).mono ?_
  rintro e w' ⟨rfl, hS'⟩
  exact ⟨_, Z, s, Zv _, hS', Z⟩
 ·cases hm
end Go.Pw
