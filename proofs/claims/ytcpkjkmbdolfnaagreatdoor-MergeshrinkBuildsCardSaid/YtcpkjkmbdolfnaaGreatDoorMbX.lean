/- -/
import Derived.Test.YtcpkjkmbdolfnaaGreatDoorMb6
import Derived.Test.YtcpkjkmbdolfnaaGreatDoorMbC
import Derived.Test.YtcpkjkmbdolfnaaGreatDoorMsA
set_option maxRecDepth 100000
set_option maxHeartbeats 4000000
set_option linter.unusedSimpArgs false
set_option linter.unusedVariables false
namespace Go.Pw
open Go.Proofs Go.Shelf Go.RowKit Go.Lib Go.Sort
def Qfj : Go.Shelf.Ren := ⟨fun | 6 => 74 | 15 => 61 | 14 => 105 | 28 => 90 | 29 => 91 | 20 => 127 | 21 => 128 | 22 => 129 | 23 => 130 | 24 => 131 | 25 => 132 | 26 => 133 | 27 => 134 | 46 => 140 | 47 => 110 | 48 => 111 | 49 => 141 | 50 => 142 | 57 => 153 | n => n, fun | 22 => 35 | 24 => 73 | 25 => 122 | 3 => 3 | 39 => 109 | 0 => 0 | 53 => 141 | 55 => 143 | 4 => 4 | 46 => 134 | 45 => 133 | 50 => 111 | 5 => 5 | 9 => 9 | 66 => 162 | 70 => 166 | 76 => 190 | 77 => 148 | n => n, fun | n => n⟩
theorem Qn5 : Go.Proofs.SlLaysF0.n6 Tryz.prog Qfj := {
 mixed := by kernel_rfl,
 f6 := ⟨Tryz.f74.name, by decide, Tryz.func74.trans (congrArg some (by kernel_rfl))⟩,
 f14 := ⟨Tryz.f105.name, by decide, Tryz.func105.trans (congrArg some (by kernel_rfl))⟩,
 f15 := Tryz.func61.trans (congrArg some (by kernel_rfl)),
 f20 := ⟨Tryz.f127.name, by decide, Tryz.func127.trans (congrArg some (by kernel_rfl))⟩,
 f21 := ⟨Tryz.f128.name, by decide, Tryz.func128.trans (congrArg some (by kernel_rfl))⟩,
 f22 := ⟨Tryz.f129.name, by decide, Tryz.func129.trans (congrArg some (by kernel_rfl))⟩,
 f23 := ⟨Tryz.f130.name, by decide, Tryz.func130.trans (congrArg some (by kernel_rfl))⟩,
 f24 := ⟨Tryz.f131.name, by decide, Tryz.func131.trans (congrArg some (by kernel_rfl))⟩,
 f25 := ⟨Tryz.f132.name, by decide, Tryz.func132.trans (congrArg some (by kernel_rfl))⟩,
 f26 := ⟨Tryz.f133.name, by decide, Tryz.func133.trans (congrArg some (by kernel_rfl))⟩,
 f27 := ⟨Tryz.f134.name, by decide, Tryz.func134.trans (congrArg some (by kernel_rfl))⟩,
 f28 := Tryz.func90.trans (congrArg some (by kernel_rfl)),
 f29 := Tryz.func91.trans (congrArg some (by kernel_rfl)),
 f46 := ⟨Tryz.f140.name, by decide, Tryz.func140.trans (congrArg some (by kernel_rfl))⟩,
 f47 := Tryz.func110.trans (congrArg some (by kernel_rfl)),
 f48 := Tryz.func111.trans (congrArg some (by kernel_rfl)),
 f49 := ⟨Tryz.f141.name, by decide, Tryz.func141.trans (congrArg some (by kernel_rfl))⟩,
 f50 := ⟨Tryz.f142.name, by decide, Tryz.func142.trans (congrArg some (by kernel_rfl))⟩,
 f57 := ⟨Tryz.f153.name, by decide, Tryz.func153.trans (congrArg some (by kernel_rfl))⟩,
 t0 := Tryz.underlying0,
 a0 := Tryz.isAgg0,
 z0 := Tryz.sizeOf0,
 v0 := Tryz.zeroValue0,
 t3 := Tryz.underlying3,
 a3 := Tryz.isAgg3,
 z3 := Tryz.sizeOf3,
 v3 := Tryz.zeroValue3,
 t4 := Tryz.underlying4,
 a4 := Tryz.isAgg4,
 z4 := Tryz.sizeOf4,
 v4 := Tryz.zeroValue4,
 t5 := Tryz.underlying5,
 a5 := Tryz.isAgg5,
 z5 := Tryz.sizeOf5,
 v5 := Tryz.zeroValue5,
 t9 := Tryz.underlying9,
 a9 := Tryz.isAgg9,
 z9 := Tryz.sizeOf9,
 v9 := Tryz.zeroValue9,
 t22 := Tryz.underlying35,
 a22 := Tryz.isAgg35,
 z22 := Tryz.sizeOf35,
 v22 := Tryz.zeroValue35,
 t25 := Tryz.underlying122,
 a25 := Tryz.isAgg122,
 z25 := Tryz.sizeOf122,
 v25 := Tryz.zeroValue122,
 t39 := Tryz.underlying109,
 a39 := Tryz.isAgg109,
 z39 := Tryz.sizeOf109,
 v39 := Tryz.zeroValue109,
 t45 := Tryz.underlying133,
 a45 := Tryz.isAgg133,
 z45 := Tryz.sizeOf133,
 v45 := Tryz.zeroValue133,
 t46 := Tryz.underlying134,
 a46 := Tryz.isAgg134,
 z46 := Tryz.sizeOf134,
 v46 := Tryz.zeroValue134,
 t50 := Tryz.underlying111,
 a50 := Tryz.isAgg111,
 z50 := Tryz.sizeOf111,
 v50 := Tryz.zeroValue111,
 t53 := Tryz.underlying141,
 a53 := Tryz.isAgg141,
 z53 := Tryz.sizeOf141,
 v53 := Tryz.zeroValue141,
 t55 := Tryz.underlying143,
 a55 := Tryz.isAgg143,
 z55 := Tryz.sizeOf143,
 v55 := Tryz.zeroValue143,
 t66 := Tryz.underlying162,
 a66 := Tryz.isAgg162,
 z66 := Tryz.sizeOf162,
 v66 := Tryz.zeroValue162,
 t70 := Tryz.underlying166,
 a70 := Tryz.isAgg166,
 z70 := Tryz.sizeOf166,
 v70 := Tryz.zeroValue166,
 t76 := Tryz.underlying190,
 a76 := Tryz.isAgg190,
 z76 := Tryz.sizeOf190,
 v76 := Tryz.zeroValue190,
 t77 := Tryz.underlying148,
 a77 := Tryz.isAgg148,
 z77 := Tryz.sizeOf148,
 v77 := Tryz.zeroValue148 }
def QkS (x : Edge) : List Value := [.int .i64 x.From, .int .i64 x.Label, .int .i64 x.To]
instance : Inhabited Edge := ⟨⟨0, 0, 0⟩⟩
theorem Qjj (s : PHeap) (cs : List Value) (x : Edge) : encEdge.rep s cs x ↔ cs = QkS x := by
 simp only [encEdge, Enc.iso, Enc.pair, U, KU, QkS]
 constructor
 ·rintro ⟨_, _, rfl, rfl, ⟨_, _, rfl, rfl, rfl⟩⟩; rfl
 ·rintro rfl; exact ⟨[_], [_, _], rfl, rfl, ⟨[_], [_], rfl, rfl, rfl⟩⟩
theorem Qhq {w0 w : World} {s : PHeap} {H : List Res} {xs : List Edge} {v : Value} {r : List Edge} (hm : Ku xs = some r) (hS : St w0 s (Res.arr encEdge 73 v xs :: H) w) :
  Calls Tryz.prog 74 #[v, Value.func (.func 125) #[] #[]] w fun e w' => ∃ u, e = .returned u ∧ ((fun (l : List Edge) => ∃ (s' : PHeap), PHeap.le s s' ∧ St w0 s' (Res.arr encEdge 73 v l :: H) w' ∧ u = Value.tuple #[]) r) := by
 unfold Ku at hm
 split at hm
 ·rename_i hlen
  have hr := Zu hm
  subst hr
  have key : ∀ x y : Edge, ltOf Qbv x y = decide (Qbv x y < 0) := fun _ _ => rfl
  have h := Qgp (P := Tryz.prog) (ρ := Qfj) (E := encEdge) (enc := QkS) (k := 3) Qn5 (fun _ => by exact Tryz.isAgg73 _) (fun _ => by exact Tryz.sizeOf73 _) (by decide) (fun _ => rfl)
   (fun x v hv => by simp [QkS] at hv; rcases hv with rfl | rfl | rfl <;> rfl) Qjj rfl Qbv
   ⟨fun x => by rw [key]; simp [Qa2], fun x y z h1 h2 => by rw [key] at *; simp only [decide_eq_true_eq, Qa2] at *; omega, fun x y z h1 h2 => by rw [key] at *; simp only [decide_eq_false_iff_not, Qa2] at *; omega⟩
   125 (enters_of Tryz.func125 (by kernel_rfl) rfl)
   (fun W x y => (QdG (Qlm x y) (QeD W)).mono fun e w' ⟨v, he, s', h1, h2, h3⟩ => ⟨v, he, s', h1, h2, h3⟩)
   (fun x y h1 h2 => by
    rw [key] at *
    simp only [decide_eq_false_iff_not, Qa2] at *
    obtain ⟨a, b, c⟩ := x
    obtain ⟨d, e, f⟩ := y
    simp only [Edge.mk.injEq] at *
    omega) hlen hS
  refine h.mono ?_
  rintro e w' ⟨rfl, hS'⟩
  exact ⟨_, Z, s, Zv _, hS', Z⟩
 ·cases hm
end Go.Pw
