/- -/
import Derived.Test.YteiainhbhaodoaaGreatEg2
import Derived.Test.YteiainhbhaodoaaGreatL24
set_option maxHeartbeats 4000000
set_option linter.unusedSimpArgs false
set_option linter.unusedVariables false
namespace Go.Pw
open Go.Proofs Go.Shelf Go.RowKit Go.Lib Go.Sort
def Qis : Go.Shelf.Ren := ⟨fun | 189 => 89 | 125 => 92 | 257 => 104 | 128 => 114 | 129 => 115 | 294 => 119 | 295 => 120 | 296 => 121 | 297 => 122 | 298 => 123 | 299 => 124 | 216 => 101 | 300 => 125 | 301 => 126 | 328 => 133 | 329 => 129 | 330 => 130 | 331 => 134 | 332 => 135 | 215 => 118 | 343 => 137 | n => n, fun | 28 => 22 | 3 => 3 | 46 => 159 | 0 => 0 | 51 => 179 | 53 => 181 | 4 => 4 | 183 => 173 | 182 => 172 | 131 => 140 | 5 => 5 | 9 => 9 | 218 => 190 | 222 => 194 | 228 => 198 | 229 => 199 | n => n, fun | n => n⟩
theorem QkT : Go.Proofs.Lays.n189 Tryz.prog Qis := {
 mixed := by kernel_rfl,
 f125 := Tryz.func92.trans (congrArg some (by kernel_rfl)),
 f128 := Tryz.func114.trans (congrArg some (by kernel_rfl)),
 f129 := Tryz.func115.trans (congrArg some (by kernel_rfl)),
 f189 := Tryz.func89.trans (congrArg some (by kernel_rfl)),
 f215 := Tryz.func118.trans (congrArg some (by kernel_rfl)),
 f216 := Tryz.func101.trans (congrArg some (by kernel_rfl)),
 f257 := Tryz.func104.trans (congrArg some (by kernel_rfl)),
 f294 := Tryz.func119.trans (congrArg some (by kernel_rfl)),
 f295 := Tryz.func120.trans (congrArg some (by kernel_rfl)),
 f296 := Tryz.func121.trans (congrArg some (by kernel_rfl)),
 f297 := Tryz.func122.trans (congrArg some (by kernel_rfl)),
 f298 := Tryz.func123.trans (congrArg some (by kernel_rfl)),
 f299 := Tryz.func124.trans (congrArg some (by kernel_rfl)),
 f300 := Tryz.func125.trans (congrArg some (by kernel_rfl)),
 f301 := Tryz.func126.trans (congrArg some (by kernel_rfl)),
 f328 := Tryz.func133.trans (congrArg some (by kernel_rfl)),
 f329 := Tryz.func129.trans (congrArg some (by kernel_rfl)),
 f330 := Tryz.func130.trans (congrArg some (by kernel_rfl)),
 f331 := Tryz.func134.trans (congrArg some (by kernel_rfl)),
 f332 := Tryz.func135.trans (congrArg some (by kernel_rfl)),
 f343 := Tryz.func137.trans (congrArg some (by kernel_rfl)),
 t0 := Tryz.underlying0,
 a0 := Tryz.isAgg0,
 z0 := Tryz.sizeOf0,
 v0 := Tryz.zeroValue0,
 t3 := Tryz.underlying3,
 a3 := Tryz.isAgg3,
 z3 := Tryz.sizeOf3,
 v3 := Tryz.zeroValue3,
 t4 := Tryz.underlying4,
 a4 := Tryz.isAgg4,
 z4 := Tryz.sizeOf4,
 v4 := Tryz.zeroValue4,
 t5 := Tryz.underlying5,
 a5 := Tryz.isAgg5,
 z5 := Tryz.sizeOf5,
 v5 := Tryz.zeroValue5,
 t9 := Tryz.underlying9,
 a9 := Tryz.isAgg9,
 z9 := Tryz.sizeOf9,
 v9 := Tryz.zeroValue9,
 t28 := Tryz.underlying22,
 a28 := Tryz.isAgg22,
 z28 := Tryz.sizeOf22,
 v28 := Tryz.zeroValue22,
 t46 := Tryz.underlying159,
 a46 := Tryz.isAgg159,
 z46 := Tryz.sizeOf159,
 v46 := Tryz.zeroValue159,
 t51 := Tryz.underlying179,
 a51 := Tryz.isAgg179,
 z51 := Tryz.sizeOf179,
 v51 := Tryz.zeroValue179,
 t53 := Tryz.underlying181,
 a53 := Tryz.isAgg181,
 z53 := Tryz.sizeOf181,
 v53 := Tryz.zeroValue181,
 t131 := Tryz.underlying140,
 a131 := Tryz.isAgg140,
 z131 := Tryz.sizeOf140,
 v131 := Tryz.zeroValue140,
 t182 := Tryz.underlying172,
 a182 := Tryz.isAgg172,
 z182 := Tryz.sizeOf172,
 v182 := Tryz.zeroValue172,
 t183 := Tryz.underlying173,
 a183 := Tryz.isAgg173,
 z183 := Tryz.sizeOf173,
 v183 := Tryz.zeroValue173,
 t218 := Tryz.underlying190,
 a218 := Tryz.isAgg190,
 z218 := Tryz.sizeOf190,
 v218 := Tryz.zeroValue190,
 t222 := Tryz.underlying194,
 a222 := Tryz.isAgg194,
 z222 := Tryz.sizeOf194,
 v222 := Tryz.zeroValue194,
 t228 := Tryz.underlying198,
 a228 := Tryz.isAgg198,
 z228 := Tryz.sizeOf198,
 v228 := Tryz.zeroValue198,
 t229 := Tryz.underlying199,
 a229 := Tryz.isAgg199,
 z229 := Tryz.sizeOf199,
 v229 := Tryz.zeroValue199 }
theorem Qgg {w0 w : World} {s : PHeap} {H : List Res} {xs : List Int} {v : Value} {r : List Int} (hm : QaV xs = some r) (hS : St w0 s (Res.arr (Qc .i64) 3 v xs :: H) w) :
  Calls Tryz.prog 89 #[v] w fun e w' => ∃ u, e = .returned u ∧ ((fun (l : List Int) => ∃ (s' : PHeap), PHeap.le s s' ∧ St w0 s' (Res.arr (Qc .i64) 3 v l :: H) w' ∧ u = Value.tuple #[]) r) := by
 unfold QaV at hm
 split at hm
 ·rename_i hlen
  have hr := Zu hm
  subst hr
  refine (Qil QkT hlen hS).mono ?_
  rintro e w' ⟨rfl, hS'⟩
  exact ⟨_, Z, s, Zv _, hS', Z⟩
 ·cases hm
end Go.Pw
