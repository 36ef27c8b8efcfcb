/- -/
import Derived.Test.YtpjojkomdndamaaGreatDoorMx3
import Derived.Test.YtpjojkomdndamaaGreatDoorMxC
import Derived.Test.YtpjojkomdndamaaGreatDoorL13
set_option maxRecDepth 100000
set_option maxHeartbeats 4000000
set_option linter.unusedSimpArgs false
set_option linter.unusedVariables false
namespace Go.Pw
open Go.Proofs Go.Shelf Go.RowKit Go.Lib Go.Sort
def Qgl : Go.Shelf.Ren := ⟨fun | 6 => 131 | 15 => 74 | 14 => 149 | 28 => 102 | 29 => 103 | 20 => 155 | 21 => 156 | 22 => 157 | 23 => 158 | 24 => 159 | 25 => 160 | 26 => 161 | 27 => 162 | 46 => 166 | 47 => 122 | 48 => 123 | 49 => 167 | 50 => 168 | 57 => 173 | n => n, fun | 22 => 183 | 24 => 184 | 25 => 186 | 3 => 3 | 39 => 121 | 0 => 0 | 53 => 152 | 55 => 154 | 4 => 4 | 46 => 145 | 45 => 144 | 50 => 123 | 5 => 5 | 9 => 9 | 66 => 173 | 70 => 177 | 76 => 201 | 77 => 159 | n => n, fun | n => n⟩
theorem Qn2 : Go.Proofs.SlLaysF0.n6 Tryz.prog Qgl := {
 mixed := by kernel_rfl,
 f6 := ⟨Tryz.f131.name, by decide, Tryz.func131.trans (congrArg some (by kernel_rfl))⟩,
 f14 := ⟨Tryz.f149.name, by decide, Tryz.func149.trans (congrArg some (by kernel_rfl))⟩,
 f15 := Tryz.func74.trans (congrArg some (by kernel_rfl)),
 f20 := ⟨Tryz.f155.name, by decide, Tryz.func155.trans (congrArg some (by kernel_rfl))⟩,
 f21 := ⟨Tryz.f156.name, by decide, Tryz.func156.trans (congrArg some (by kernel_rfl))⟩,
 f22 := ⟨Tryz.f157.name, by decide, Tryz.func157.trans (congrArg some (by kernel_rfl))⟩,
 f23 := ⟨Tryz.f158.name, by decide, Tryz.func158.trans (congrArg some (by kernel_rfl))⟩,
 f24 := ⟨Tryz.f159.name, by decide, Tryz.func159.trans (congrArg some (by kernel_rfl))⟩,
 f25 := ⟨Tryz.f160.name, by decide, Tryz.func160.trans (congrArg some (by kernel_rfl))⟩,
 f26 := ⟨Tryz.f161.name, by decide, Tryz.func161.trans (congrArg some (by kernel_rfl))⟩,
 f27 := ⟨Tryz.f162.name, by decide, Tryz.func162.trans (congrArg some (by kernel_rfl))⟩,
 f28 := Tryz.func102.trans (congrArg some (by kernel_rfl)),
 f29 := Tryz.func103.trans (congrArg some (by kernel_rfl)),
 f46 := ⟨Tryz.f166.name, by decide, Tryz.func166.trans (congrArg some (by kernel_rfl))⟩,
 f47 := Tryz.func122.trans (congrArg some (by kernel_rfl)),
 f48 := Tryz.func123.trans (congrArg some (by kernel_rfl)),
 f49 := ⟨Tryz.f167.name, by decide, Tryz.func167.trans (congrArg some (by kernel_rfl))⟩,
 f50 := ⟨Tryz.f168.name, by decide, Tryz.func168.trans (congrArg some (by kernel_rfl))⟩,
 f57 := ⟨Tryz.f173.name, by decide, Tryz.func173.trans (congrArg some (by kernel_rfl))⟩,
 t0 := Tryz.underlying0,
 a0 := Tryz.isAgg0,
 z0 := Tryz.sizeOf0,
 v0 := Tryz.zeroValue0,
 t3 := Tryz.underlying3,
 a3 := Tryz.isAgg3,
 z3 := Tryz.sizeOf3,
 v3 := Tryz.zeroValue3,
 t4 := Tryz.underlying4,
 a4 := Tryz.isAgg4,
 z4 := Tryz.sizeOf4,
 v4 := Tryz.zeroValue4,
 t5 := Tryz.underlying5,
 a5 := Tryz.isAgg5,
 z5 := Tryz.sizeOf5,
 v5 := Tryz.zeroValue5,
 t9 := Tryz.underlying9,
 a9 := Tryz.isAgg9,
 z9 := Tryz.sizeOf9,
 v9 := Tryz.zeroValue9,
 t22 := Tryz.underlying183,
 a22 := Tryz.isAgg183,
 z22 := Tryz.sizeOf183,
 v22 := Tryz.zeroValue183,
 t25 := Tryz.underlying186,
 a25 := Tryz.isAgg186,
 z25 := Tryz.sizeOf186,
 v25 := Tryz.zeroValue186,
 t39 := Tryz.underlying121,
 a39 := Tryz.isAgg121,
 z39 := Tryz.sizeOf121,
 v39 := Tryz.zeroValue121,
 t45 := Tryz.underlying144,
 a45 := Tryz.isAgg144,
 z45 := Tryz.sizeOf144,
 v45 := Tryz.zeroValue144,
 t46 := Tryz.underlying145,
 a46 := Tryz.isAgg145,
 z46 := Tryz.sizeOf145,
 v46 := Tryz.zeroValue145,
 t50 := Tryz.underlying123,
 a50 := Tryz.isAgg123,
 z50 := Tryz.sizeOf123,
 v50 := Tryz.zeroValue123,
 t53 := Tryz.underlying152,
 a53 := Tryz.isAgg152,
 z53 := Tryz.sizeOf152,
 v53 := Tryz.zeroValue152,
 t55 := Tryz.underlying154,
 a55 := Tryz.isAgg154,
 z55 := Tryz.sizeOf154,
 v55 := Tryz.zeroValue154,
 t66 := Tryz.underlying173,
 a66 := Tryz.isAgg173,
 z66 := Tryz.sizeOf173,
 v66 := Tryz.zeroValue173,
 t70 := Tryz.underlying177,
 a70 := Tryz.isAgg177,
 z70 := Tryz.sizeOf177,
 v70 := Tryz.zeroValue177,
 t76 := Tryz.underlying201,
 a76 := Tryz.isAgg201,
 z76 := Tryz.sizeOf201,
 v76 := Tryz.zeroValue201,
 t77 := Tryz.underlying159,
 a77 := Tryz.isAgg159,
 z77 := Tryz.sizeOf159,
 v77 := Tryz.zeroValue159 }
def QjL (x : Arr2_int) : List Value := [.int .i64 x.a0, .int .i64 x.a1]
instance : Inhabited Arr2_int := ⟨⟨0, 0⟩⟩
theorem QkH (s : PHeap) (cs : List Value) (x : Arr2_int) : encArr2_int.rep s cs x ↔ cs = QjL x := by
 simp only [encArr2_int, Enc.iso, Enc.pair, Qa, Yi, QjL]
 constructor
 ·rintro ⟨_, _, rfl, rfl, rfl⟩; rfl
 ·rintro rfl; exact ⟨[_], [_], rfl, rfl, rfl⟩
theorem QgE {w0 w : World} {s : PHeap} {H : List Res} {xs : List Arr2_int} {v : Value} {r : List Arr2_int} (hm : Qbf xs = some r) (hS : St w0 s (Res.arr encArr2_int 184 v xs :: H) w) :
  Calls Tryz.prog 131 #[v, Value.func (.func 132) #[] #[]] w fun e w' => ∃ u, e = .returned u ∧ ((fun (l : List Arr2_int) => ∃ (s' : PHeap), PHeap.le s s' ∧ St w0 s' (Res.arr encArr2_int 184 v l :: H) w' ∧ u = Value.tuple #[]) r) := by
 unfold Qbf at hm
 split at hm
 ·rename_i hlen
  have hr := Zu hm
  subst hr
  have key : ∀ x y : Arr2_int, ltOf QfB x y = decide (QfB x y < 0) := fun _ _ => rfl
  have h := QfO (P := Tryz.prog) (ρ := Qgl) (E := encArr2_int) (enc := QjL) (k := 2) Qn2 (fun _ => by exact Tryz.isAgg184 _) (fun _ => by exact Tryz.sizeOf184 _) (by decide) (fun _ => rfl)
   (fun x v hv => by simp [QjL] at hv; rcases hv with rfl | rfl <;> rfl) QkH rfl QfB
   ⟨fun x => by rw [key]; simp [QbF], fun x y z h1 h2 => by rw [key] at *; simp only [decide_eq_true_eq, QbF] at *; omega, fun x y z h1 h2 => by rw [key] at *; simp only [decide_eq_false_iff_not, QbF] at *; omega⟩
   132 (enters_of Tryz.func132 (by kernel_rfl) rfl)
   (fun W x y => (Qds (QlD x y) (Qex W)).mono fun e w' ⟨v, he, s', h1, h2, h3⟩ => ⟨v, he, s', h1, h2, h3⟩)
   (fun x y h1 h2 => by
    rw [key] at *
    simp only [decide_eq_false_iff_not, QbF] at *
    obtain ⟨a, b⟩ := x
    obtain ⟨d, e⟩ := y
    simp only [Arr2_int.mk.injEq] at *
    omega) hlen hS
  refine h.mono ?_
  rintro e w' ⟨rfl, hS'⟩
  exact ⟨_, Z, s, Zv _, hS', Z⟩
 ·cases hm
end Go.Pw
