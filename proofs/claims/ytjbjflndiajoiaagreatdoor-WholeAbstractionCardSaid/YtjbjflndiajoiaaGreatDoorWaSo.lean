/- -/
import Derived.Test.YtjbjflndiajoiaaGreatDoorWa1
import Derived.Test.YtjbjflndiajoiaaGreatDoorL24
set_option maxHeartbeats 4000000
set_option linter.unusedSimpArgs false
set_option linter.unusedVariables false
namespace Go.Pw
open Go.Proofs Go.Shelf Go.RowKit Go.Lib Go.Sort
def Qmx : Go.Shelf.Ren := ⟨fun | 189 => 52 | 125 => 80 | 257 => 79 | 128 => 112 | 129 => 113 | 294 => 103 | 295 => 104 | 296 => 105 | 297 => 106 | 298 => 107 | 299 => 108 | 216 => 109 | 300 => 110 | 301 => 111 | 328 => 139 | 329 => 140 | 330 => 141 | 331 => 142 | 332 => 143 | 215 => 144 | 343 => 171 | n => n, fun | 28 => 22 | 3 => 3 | 46 => 147 | 0 => 0 | 51 => 192 | 53 => 194 | 4 => 4 | 183 => 186 | 182 => 185 | 131 => 92 | 5 => 5 | 9 => 9 | 218 => 223 | 222 => 227 | 228 => 254 | 229 => 195 | n => n, fun | n => n⟩
theorem Qqp : Go.Proofs.Lays.n189 Tryz.prog Qmx := {
 mixed := by kernel_rfl,
 f125 := Tryz.func80.trans (congrArg some (by kernel_rfl)),
 f128 := Tryz.func112.trans (congrArg some (by kernel_rfl)),
 f129 := Tryz.func113.trans (congrArg some (by kernel_rfl)),
 f189 := Tryz.func52.trans (congrArg some (by kernel_rfl)),
 f215 := Tryz.func144.trans (congrArg some (by kernel_rfl)),
 f216 := Tryz.func109.trans (congrArg some (by kernel_rfl)),
 f257 := Tryz.func79.trans (congrArg some (by kernel_rfl)),
 f294 := Tryz.func103.trans (congrArg some (by kernel_rfl)),
 f295 := Tryz.func104.trans (congrArg some (by kernel_rfl)),
 f296 := Tryz.func105.trans (congrArg some (by kernel_rfl)),
 f297 := Tryz.func106.trans (congrArg some (by kernel_rfl)),
 f298 := Tryz.func107.trans (congrArg some (by kernel_rfl)),
 f299 := Tryz.func108.trans (congrArg some (by kernel_rfl)),
 f300 := Tryz.func110.trans (congrArg some (by kernel_rfl)),
 f301 := Tryz.func111.trans (congrArg some (by kernel_rfl)),
 f328 := Tryz.func139.trans (congrArg some (by kernel_rfl)),
 f329 := Tryz.func140.trans (congrArg some (by kernel_rfl)),
 f330 := Tryz.func141.trans (congrArg some (by kernel_rfl)),
 f331 := Tryz.func142.trans (congrArg some (by kernel_rfl)),
 f332 := Tryz.func143.trans (congrArg some (by kernel_rfl)),
 f343 := Tryz.func171.trans (congrArg some (by kernel_rfl)),
 t0 := Tryz.underlying0,
 a0 := Tryz.isAgg0,
 z0 := Tryz.sizeOf0,
 v0 := Tryz.zeroValue0,
 t3 := Tryz.underlying3,
 a3 := Tryz.isAgg3,
 z3 := Tryz.sizeOf3,
 v3 := Tryz.zeroValue3,
 t4 := Tryz.underlying4,
 a4 := Tryz.isAgg4,
 z4 := Tryz.sizeOf4,
 v4 := Tryz.zeroValue4,
 t5 := Tryz.underlying5,
 a5 := Tryz.isAgg5,
 z5 := Tryz.sizeOf5,
 v5 := Tryz.zeroValue5,
 t9 := Tryz.underlying9,
 a9 := Tryz.isAgg9,
 z9 := Tryz.sizeOf9,
 v9 := Tryz.zeroValue9,
 t28 := Tryz.underlying22,
 a28 := Tryz.isAgg22,
 z28 := Tryz.sizeOf22,
 v28 := Tryz.zeroValue22,
 t46 := Tryz.underlying147,
 a46 := Tryz.isAgg147,
 z46 := Tryz.sizeOf147,
 v46 := Tryz.zeroValue147,
 t51 := Tryz.underlying192,
 a51 := Tryz.isAgg192,
 z51 := Tryz.sizeOf192,
 v51 := Tryz.zeroValue192,
 t53 := Tryz.underlying194,
 a53 := Tryz.isAgg194,
 z53 := Tryz.sizeOf194,
 v53 := Tryz.zeroValue194,
 t131 := Tryz.underlying92,
 a131 := Tryz.isAgg92,
 z131 := Tryz.sizeOf92,
 v131 := Tryz.zeroValue92,
 t182 := Tryz.underlying185,
 a182 := Tryz.isAgg185,
 z182 := Tryz.sizeOf185,
 v182 := Tryz.zeroValue185,
 t183 := Tryz.underlying186,
 a183 := Tryz.isAgg186,
 z183 := Tryz.sizeOf186,
 v183 := Tryz.zeroValue186,
 t218 := Tryz.underlying223,
 a218 := Tryz.isAgg223,
 z218 := Tryz.sizeOf223,
 v218 := Tryz.zeroValue223,
 t222 := Tryz.underlying227,
 a222 := Tryz.isAgg227,
 z222 := Tryz.sizeOf227,
 v222 := Tryz.zeroValue227,
 t228 := Tryz.underlying254,
 a228 := Tryz.isAgg254,
 z228 := Tryz.sizeOf254,
 v228 := Tryz.zeroValue254,
 t229 := Tryz.underlying195,
 a229 := Tryz.isAgg195,
 z229 := Tryz.sizeOf195,
 v229 := Tryz.zeroValue195 }
theorem QdL {w0 w : World} {s : PHeap} {H : List Res} {xs : List Int} {v : Value} {r : List Int} (hm : Qab xs = some r) (hS : St w0 s (Res.arr (U .i64) 3 v xs :: H) w) :
  Calls Tryz.prog 52 #[v] w fun e w' => ∃ u, e = .returned u ∧ ((fun (l : List Int) => ∃ (s' : PHeap), PHeap.le s s' ∧ St w0 s' (Res.arr (U .i64) 3 v l :: H) w' ∧ u = Value.tuple #[]) r) := by
 unfold Qab at hm
 split at hm
 ·rename_i hlen
  have hr := Zu hm
  subst hr
  refine (Qmn Qqp hlen hS).mono ?_
  rintro e w' ⟨rfl, hS'⟩
  exact ⟨_, Z, s, Zv _, hS', Z⟩
 ·cases hm
end Go.Pw
