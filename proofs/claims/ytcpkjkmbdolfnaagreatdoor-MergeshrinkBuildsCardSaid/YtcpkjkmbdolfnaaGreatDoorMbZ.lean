/- -/
import Derived.Test.YtcpkjkmbdolfnaaGreatDoorMb3
import Derived.Test.YtcpkjkmbdolfnaaGreatDoorMbC
import Derived.Test.YtcpkjkmbdolfnaaGreatDoorMsA
set_option maxRecDepth 100000
set_option maxHeartbeats 4000000
set_option linter.unusedSimpArgs false
set_option linter.unusedVariables false
namespace Go.Pw
open Go.Proofs Go.Shelf Go.RowKit Go.Lib Go.Sort
def QgK : Go.Shelf.Ren := ⟨fun | 6 => 119 | 15 => 61 | 14 => 137 | 28 => 90 | 29 => 91 | 20 => 143 | 21 => 144 | 22 => 145 | 23 => 146 | 24 => 147 | 25 => 148 | 26 => 149 | 27 => 150 | 46 => 154 | 47 => 110 | 48 => 111 | 49 => 155 | 50 => 156 | 57 => 161 | n => n, fun | 22 => 172 | 24 => 173 | 25 => 175 | 3 => 3 | 39 => 109 | 0 => 0 | 53 => 141 | 55 => 143 | 4 => 4 | 46 => 134 | 45 => 133 | 50 => 111 | 5 => 5 | 9 => 9 | 66 => 162 | 70 => 166 | 76 => 190 | 77 => 148 | n => n, fun | n => n⟩
theorem Qoh : Go.Proofs.SlLaysF0.n6 Tryz.prog QgK := {
 mixed := by kernel_rfl,
 f6 := ⟨Tryz.f119.name, by decide, Tryz.func119.trans (congrArg some (by kernel_rfl))⟩,
 f14 := ⟨Tryz.f137.name, by decide, Tryz.func137.trans (congrArg some (by kernel_rfl))⟩,
 f15 := Tryz.func61.trans (congrArg some (by kernel_rfl)),
 f20 := ⟨Tryz.f143.name, by decide, Tryz.func143.trans (congrArg some (by kernel_rfl))⟩,
 f21 := ⟨Tryz.f144.name, by decide, Tryz.func144.trans (congrArg some (by kernel_rfl))⟩,
 f22 := ⟨Tryz.f145.name, by decide, Tryz.func145.trans (congrArg some (by kernel_rfl))⟩,
 f23 := ⟨Tryz.f146.name, by decide, Tryz.func146.trans (congrArg some (by kernel_rfl))⟩,
 f24 := ⟨Tryz.f147.name, by decide, Tryz.func147.trans (congrArg some (by kernel_rfl))⟩,
 f25 := ⟨Tryz.f148.name, by decide, Tryz.func148.trans (congrArg some (by kernel_rfl))⟩,
 f26 := ⟨Tryz.f149.name, by decide, Tryz.func149.trans (congrArg some (by kernel_rfl))⟩,
 f27 := ⟨Tryz.f150.name, by decide, Tryz.func150.trans (congrArg some (by kernel_rfl))⟩,
 f28 := Tryz.func90.trans (congrArg some (by kernel_rfl)),
 f29 := Tryz.func91.trans (congrArg some (by kernel_rfl)),
 f46 := ⟨Tryz.f154.name, by decide, Tryz.func154.trans (congrArg some (by kernel_rfl))⟩,
 f47 := Tryz.func110.trans (congrArg some (by kernel_rfl)),
 f48 := Tryz.func111.trans (congrArg some (by kernel_rfl)),
 f49 := ⟨Tryz.f155.name, by decide, Tryz.func155.trans (congrArg some (by kernel_rfl))⟩,
 f50 := ⟨Tryz.f156.name, by decide, Tryz.func156.trans (congrArg some (by kernel_rfl))⟩,
 f57 := ⟨Tryz.f161.name, by decide, Tryz.func161.trans (congrArg some (by kernel_rfl))⟩,
 t0 := Tryz.underlying0,
 a0 := Tryz.isAgg0,
 z0 := Tryz.sizeOf0,
 v0 := Tryz.zeroValue0,
 t3 := Tryz.underlying3,
 a3 := Tryz.isAgg3,
 z3 := Tryz.sizeOf3,
 v3 := Tryz.zeroValue3,
 t4 := Tryz.underlying4,
 a4 := Tryz.isAgg4,
 z4 := Tryz.sizeOf4,
 v4 := Tryz.zeroValue4,
 t5 := Tryz.underlying5,
 a5 := Tryz.isAgg5,
 z5 := Tryz.sizeOf5,
 v5 := Tryz.zeroValue5,
 t9 := Tryz.underlying9,
 a9 := Tryz.isAgg9,
 z9 := Tryz.sizeOf9,
 v9 := Tryz.zeroValue9,
 t22 := Tryz.underlying172,
 a22 := Tryz.isAgg172,
 z22 := Tryz.sizeOf172,
 v22 := Tryz.zeroValue172,
 t25 := Tryz.underlying175,
 a25 := Tryz.isAgg175,
 z25 := Tryz.sizeOf175,
 v25 := Tryz.zeroValue175,
 t39 := Tryz.underlying109,
 a39 := Tryz.isAgg109,
 z39 := Tryz.sizeOf109,
 v39 := Tryz.zeroValue109,
 t45 := Tryz.underlying133,
 a45 := Tryz.isAgg133,
 z45 := Tryz.sizeOf133,
 v45 := Tryz.zeroValue133,
 t46 := Tryz.underlying134,
 a46 := Tryz.isAgg134,
 z46 := Tryz.sizeOf134,
 v46 := Tryz.zeroValue134,
 t50 := Tryz.underlying111,
 a50 := Tryz.isAgg111,
 z50 := Tryz.sizeOf111,
 v50 := Tryz.zeroValue111,
 t53 := Tryz.underlying141,
 a53 := Tryz.isAgg141,
 z53 := Tryz.sizeOf141,
 v53 := Tryz.zeroValue141,
 t55 := Tryz.underlying143,
 a55 := Tryz.isAgg143,
 z55 := Tryz.sizeOf143,
 v55 := Tryz.zeroValue143,
 t66 := Tryz.underlying162,
 a66 := Tryz.isAgg162,
 z66 := Tryz.sizeOf162,
 v66 := Tryz.zeroValue162,
 t70 := Tryz.underlying166,
 a70 := Tryz.isAgg166,
 z70 := Tryz.sizeOf166,
 v70 := Tryz.zeroValue166,
 t76 := Tryz.underlying190,
 a76 := Tryz.isAgg190,
 z76 := Tryz.sizeOf190,
 v76 := Tryz.zeroValue190,
 t77 := Tryz.underlying148,
 a77 := Tryz.isAgg148,
 z77 := Tryz.sizeOf148,
 v77 := Tryz.zeroValue148 }
def Qk0 (x : Arr2_int) : List Value := [.int .i64 x.a0, .int .i64 x.a1]
instance : Inhabited Arr2_int := ⟨⟨0, 0⟩⟩
theorem Qly (s : PHeap) (cs : List Value) (x : Arr2_int) : encArr2_int.rep s cs x ↔ cs = Qk0 x := by
 simp only [encArr2_int, Enc.iso, Enc.pair, U, KU, Qk0]
 constructor
 ·rintro ⟨_, _, rfl, rfl, rfl⟩; rfl
 ·rintro rfl; exact ⟨[_], [_], rfl, rfl, rfl⟩
theorem Qhp {w0 w : World} {s : PHeap} {H : List Res} {xs : List Arr2_int} {v : Value} {r : List Arr2_int} (hm : Qbl xs = some r) (hS : St w0 s (Res.arr encArr2_int 173 v xs :: H) w) :
  Calls Tryz.prog 119 #[v, Value.func (.func 120) #[] #[]] w fun e w' => ∃ u, e = .returned u ∧ ((fun (l : List Arr2_int) => ∃ (s' : PHeap), PHeap.le s s' ∧ St w0 s' (Res.arr encArr2_int 173 v l :: H) w' ∧ u = Value.tuple #[]) r) := by
 unfold Qbl at hm
 split at hm
 ·rename_i hlen
  have hr := Zu hm
  subst hr
  have key : ∀ x y : Arr2_int, ltOf Qgf x y = decide (Qgf x y < 0) := fun _ _ => rfl
  have h := Qgp (P := Tryz.prog) (ρ := QgK) (E := encArr2_int) (enc := Qk0) (k := 2) Qoh (fun _ => by exact Tryz.isAgg173 _) (fun _ => by exact Tryz.sizeOf173 _) (by decide) (fun _ => rfl)
   (fun x v hv => by simp [Qk0] at hv; rcases hv with rfl | rfl <;> rfl) Qly rfl Qgf
   ⟨fun x => by rw [key]; simp [QbI], fun x y z h1 h2 => by rw [key] at *; simp only [decide_eq_true_eq, QbI] at *; omega, fun x y z h1 h2 => by rw [key] at *; simp only [decide_eq_false_iff_not, QbI] at *; omega⟩
   120 (enters_of Tryz.func120 (by kernel_rfl) rfl)
   (fun W x y => (Qdo (Qmu x y) (QeD W)).mono fun e w' ⟨v, he, s', h1, h2, h3⟩ => ⟨v, he, s', h1, h2, h3⟩)
   (fun x y h1 h2 => by
    rw [key] at *
    simp only [decide_eq_false_iff_not, QbI] at *
    obtain ⟨a, b⟩ := x
    obtain ⟨d, e⟩ := y
    simp only [Arr2_int.mk.injEq] at *
    omega) hlen hS
  refine h.mono ?_
  rintro e w' ⟨rfl, hS'⟩
  exact ⟨_, Z, s, Zv _, hS', Z⟩
 ·cases hm
end Go.Pw
