/- -/
import Derived.Test.YtpjojkomdndamaaGreatDoorMx1
import Derived.Test.YtpjojkomdndamaaGreatDoorL24
set_option maxHeartbeats 4000000
set_option linter.unusedSimpArgs false
set_option linter.unusedVariables false
namespace Go.Pw
open Go.Proofs Go.Shelf Go.RowKit Go.Lib Go.Sort
def Qk5 : Go.Shelf.Ren := ⟨fun | 189 => 53 | 125 => 74 | 257 => 73 | 128 => 102 | 129 => 103 | 294 => 93 | 295 => 94 | 296 => 95 | 297 => 96 | 298 => 97 | 299 => 98 | 216 => 99 | 300 => 100 | 301 => 101 | 328 => 121 | 329 => 122 | 330 => 123 | 331 => 124 | 332 => 125 | 215 => 126 | 343 => 147 | n => n, fun | 28 => 22 | 3 => 3 | 46 => 121 | 0 => 0 | 51 => 152 | 53 => 154 | 4 => 4 | 183 => 145 | 182 => 144 | 131 => 123 | 5 => 5 | 9 => 9 | 218 => 173 | 222 => 177 | 228 => 201 | 229 => 159 | n => n, fun | n => n⟩
theorem QnO : Go.Proofs.Lays.n189 Tryz.prog Qk5 := {
 mixed := by kernel_rfl,
 f125 := Tryz.func74.trans (congrArg some (by kernel_rfl)),
 f128 := Tryz.func102.trans (congrArg some (by kernel_rfl)),
 f129 := Tryz.func103.trans (congrArg some (by kernel_rfl)),
 f189 := Tryz.func53.trans (congrArg some (by kernel_rfl)),
 f215 := Tryz.func126.trans (congrArg some (by kernel_rfl)),
 f216 := Tryz.func99.trans (congrArg some (by kernel_rfl)),
 f257 := Tryz.func73.trans (congrArg some (by kernel_rfl)),
 f294 := Tryz.func93.trans (congrArg some (by kernel_rfl)),
 f295 := Tryz.func94.trans (congrArg some (by kernel_rfl)),
 f296 := Tryz.func95.trans (congrArg some (by kernel_rfl)),
 f297 := Tryz.func96.trans (congrArg some (by kernel_rfl)),
 f298 := Tryz.func97.trans (congrArg some (by kernel_rfl)),
 f299 := Tryz.func98.trans (congrArg some (by kernel_rfl)),
 f300 := Tryz.func100.trans (congrArg some (by kernel_rfl)),
 f301 := Tryz.func101.trans (congrArg some (by kernel_rfl)),
 f328 := Tryz.func121.trans (congrArg some (by kernel_rfl)),
 f329 := Tryz.func122.trans (congrArg some (by kernel_rfl)),
 f330 := Tryz.func123.trans (congrArg some (by kernel_rfl)),
 f331 := Tryz.func124.trans (congrArg some (by kernel_rfl)),
 f332 := Tryz.func125.trans (congrArg some (by kernel_rfl)),
 f343 := Tryz.func147.trans (congrArg some (by kernel_rfl)),
 t0 := Tryz.underlying0,
 a0 := Tryz.isAgg0,
 z0 := Tryz.sizeOf0,
 v0 := Tryz.zeroValue0,
 t3 := Tryz.underlying3,
 a3 := Tryz.isAgg3,
 z3 := Tryz.sizeOf3,
 v3 := Tryz.zeroValue3,
 t4 := Tryz.underlying4,
 a4 := Tryz.isAgg4,
 z4 := Tryz.sizeOf4,
 v4 := Tryz.zeroValue4,
 t5 := Tryz.underlying5,
 a5 := Tryz.isAgg5,
 z5 := Tryz.sizeOf5,
 v5 := Tryz.zeroValue5,
 t9 := Tryz.underlying9,
 a9 := Tryz.isAgg9,
 z9 := Tryz.sizeOf9,
 v9 := Tryz.zeroValue9,
 t28 := Tryz.underlying22,
 a28 := Tryz.isAgg22,
 z28 := Tryz.sizeOf22,
 v28 := Tryz.zeroValue22,
 t46 := Tryz.underlying121,
 a46 := Tryz.isAgg121,
 z46 := Tryz.sizeOf121,
 v46 := Tryz.zeroValue121,
 t51 := Tryz.underlying152,
 a51 := Tryz.isAgg152,
 z51 := Tryz.sizeOf152,
 v51 := Tryz.zeroValue152,
 t53 := Tryz.underlying154,
 a53 := Tryz.isAgg154,
 z53 := Tryz.sizeOf154,
 v53 := Tryz.zeroValue154,
 t131 := Tryz.underlying123,
 a131 := Tryz.isAgg123,
 z131 := Tryz.sizeOf123,
 v131 := Tryz.zeroValue123,
 t182 := Tryz.underlying144,
 a182 := Tryz.isAgg144,
 z182 := Tryz.sizeOf144,
 v182 := Tryz.zeroValue144,
 t183 := Tryz.underlying145,
 a183 := Tryz.isAgg145,
 z183 := Tryz.sizeOf145,
 v183 := Tryz.zeroValue145,
 t218 := Tryz.underlying173,
 a218 := Tryz.isAgg173,
 z218 := Tryz.sizeOf173,
 v218 := Tryz.zeroValue173,
 t222 := Tryz.underlying177,
 a222 := Tryz.isAgg177,
 z222 := Tryz.sizeOf177,
 v222 := Tryz.zeroValue177,
 t228 := Tryz.underlying201,
 a228 := Tryz.isAgg201,
 z228 := Tryz.sizeOf201,
 v228 := Tryz.zeroValue201,
 t229 := Tryz.underlying159,
 a229 := Tryz.isAgg159,
 z229 := Tryz.sizeOf159,
 v229 := Tryz.zeroValue159 }
theorem QcK {w0 w : World} {s : PHeap} {H : List Res} {xs : List Int} {v : Value} {r : List Int} (hm : Yd xs = some r) (hS : St w0 s (Res.arr (Qa .i64) 3 v xs :: H) w) :
  Calls Tryz.prog 53 #[v] w fun e w' => ∃ u, e = .returned u ∧ ((fun (l : List Int) => ∃ (s' : PHeap), PHeap.le s s' ∧ St w0 s' (Res.arr (Qa .i64) 3 v l :: H) w' ∧ u = Value.tuple #[]) r) := by
 unfold Yd at hm
 split at hm
 ·rename_i hlen
  have hr := Zu hm
  subst hr
  refine (Qkt QnO hlen hS).mono ?_
  rintro e w' ⟨rfl, hS'⟩
  exact ⟨_, Z, s, Zv _, hS', Z⟩
 ·cases hm
end Go.Pw
