/- -/
import Derived.Test.YtpjojkomdndamaaGreatDoorMx6
import Derived.Test.YtpjojkomdndamaaGreatDoorMxC
import Derived.Test.YtpjojkomdndamaaGreatDoorL13
set_option maxRecDepth 100000
set_option maxHeartbeats 4000000
set_option linter.unusedSimpArgs false
set_option linter.unusedVariables false
namespace Go.Pw
open Go.Proofs Go.Shelf Go.RowKit Go.Lib Go.Sort
def QeO : Go.Shelf.Ren := ⟨fun | 6 => 87 | 15 => 74 | 14 => 117 | 28 => 102 | 29 => 103 | 20 => 139 | 21 => 140 | 22 => 141 | 23 => 142 | 24 => 143 | 25 => 144 | 26 => 145 | 27 => 146 | 46 => 152 | 47 => 122 | 48 => 123 | 49 => 153 | 50 => 154 | 57 => 165 | n => n, fun | 22 => 35 | 24 => 85 | 25 => 134 | 3 => 3 | 39 => 121 | 0 => 0 | 53 => 152 | 55 => 154 | 4 => 4 | 46 => 145 | 45 => 144 | 50 => 123 | 5 => 5 | 9 => 9 | 66 => 173 | 70 => 177 | 76 => 201 | 77 => 159 | n => n, fun | n => n⟩
theorem Qne : Go.Proofs.SlLaysF0.n6 Tryz.prog QeO := {
 mixed := by kernel_rfl,
 f6 := ⟨Tryz.f87.name, by decide, Tryz.func87.trans (congrArg some (by kernel_rfl))⟩,
 f14 := ⟨Tryz.f117.name, by decide, Tryz.func117.trans (congrArg some (by kernel_rfl))⟩,
 f15 := Tryz.func74.trans (congrArg some (by kernel_rfl)),
 f20 := ⟨Tryz.f139.name, by decide, Tryz.func139.trans (congrArg some (by kernel_rfl))⟩,
 f21 := ⟨Tryz.f140.name, by decide, Tryz.func140.trans (congrArg some (by kernel_rfl))⟩,
 f22 := ⟨Tryz.f141.name, by decide, Tryz.func141.trans (congrArg some (by kernel_rfl))⟩,
 f23 := ⟨Tryz.f142.name, by decide, Tryz.func142.trans (congrArg some (by kernel_rfl))⟩,
 f24 := ⟨Tryz.f143.name, by decide, Tryz.func143.trans (congrArg some (by kernel_rfl))⟩,
 f25 := ⟨Tryz.f144.name, by decide, Tryz.func144.trans (congrArg some (by kernel_rfl))⟩,
 f26 := ⟨Tryz.f145.name, by decide, Tryz.func145.trans (congrArg some (by kernel_rfl))⟩,
 f27 := ⟨Tryz.f146.name, by decide, Tryz.func146.trans (congrArg some (by kernel_rfl))⟩,
 f28 := Tryz.func102.trans (congrArg some (by kernel_rfl)),
 f29 := Tryz.func103.trans (congrArg some (by kernel_rfl)),
 f46 := ⟨Tryz.f152.name, by decide, Tryz.func152.trans (congrArg some (by kernel_rfl))⟩,
 f47 := Tryz.func122.trans (congrArg some (by kernel_rfl)),
 f48 := Tryz.func123.trans (congrArg some (by kernel_rfl)),
 f49 := ⟨Tryz.f153.name, by decide, Tryz.func153.trans (congrArg some (by kernel_rfl))⟩,
 f50 := ⟨Tryz.f154.name, by decide, Tryz.func154.trans (congrArg some (by kernel_rfl))⟩,
 f57 := ⟨Tryz.f165.name, by decide, Tryz.func165.trans (congrArg some (by kernel_rfl))⟩,
 t0 := Tryz.underlying0,
 a0 := Tryz.isAgg0,
 z0 := Tryz.sizeOf0,
 v0 := Tryz.zeroValue0,
 t3 := Tryz.underlying3,
 a3 := Tryz.isAgg3,
 z3 := Tryz.sizeOf3,
 v3 := Tryz.zeroValue3,
 t4 := Tryz.underlying4,
 a4 := Tryz.isAgg4,
 z4 := Tryz.sizeOf4,
 v4 := Tryz.zeroValue4,
 t5 := Tryz.underlying5,
 a5 := Tryz.isAgg5,
 z5 := Tryz.sizeOf5,
 v5 := Tryz.zeroValue5,
 t9 := Tryz.underlying9,
 a9 := Tryz.isAgg9,
 z9 := Tryz.sizeOf9,
 v9 := Tryz.zeroValue9,
 t22 := Tryz.underlying35,
 a22 := Tryz.isAgg35,
 z22 := Tryz.sizeOf35,
 v22 := Tryz.zeroValue35,
 t25 := Tryz.underlying134,
 a25 := Tryz.isAgg134,
 z25 := Tryz.sizeOf134,
 v25 := Tryz.zeroValue134,
 t39 := Tryz.underlying121,
 a39 := Tryz.isAgg121,
 z39 := Tryz.sizeOf121,
 v39 := Tryz.zeroValue121,
 t45 := Tryz.underlying144,
 a45 := Tryz.isAgg144,
 z45 := Tryz.sizeOf144,
 v45 := Tryz.zeroValue144,
 t46 := Tryz.underlying145,
 a46 := Tryz.isAgg145,
 z46 := Tryz.sizeOf145,
 v46 := Tryz.zeroValue145,
 t50 := Tryz.underlying123,
 a50 := Tryz.isAgg123,
 z50 := Tryz.sizeOf123,
 v50 := Tryz.zeroValue123,
 t53 := Tryz.underlying152,
 a53 := Tryz.isAgg152,
 z53 := Tryz.sizeOf152,
 v53 := Tryz.zeroValue152,
 t55 := Tryz.underlying154,
 a55 := Tryz.isAgg154,
 z55 := Tryz.sizeOf154,
 v55 := Tryz.zeroValue154,
 t66 := Tryz.underlying173,
 a66 := Tryz.isAgg173,
 z66 := Tryz.sizeOf173,
 v66 := Tryz.zeroValue173,
 t70 := Tryz.underlying177,
 a70 := Tryz.isAgg177,
 z70 := Tryz.sizeOf177,
 v70 := Tryz.zeroValue177,
 t76 := Tryz.underlying201,
 a76 := Tryz.isAgg201,
 z76 := Tryz.sizeOf201,
 v76 := Tryz.zeroValue201,
 t77 := Tryz.underlying159,
 a77 := Tryz.isAgg159,
 z77 := Tryz.sizeOf159,
 v77 := Tryz.zeroValue159 }
def Qkh (x : Edge) : List Value := [.int .i64 x.From, .int .i64 x.Label, .int .i64 x.To]
instance : Inhabited Edge := ⟨⟨0, 0, 0⟩⟩
theorem Qi7 (s : PHeap) (cs : List Value) (x : Edge) : encEdge.rep s cs x ↔ cs = Qkh x := by
 simp only [encEdge, Enc.iso, Enc.pair, Qa, Yi, Qkh]
 constructor
 ·rintro ⟨_, _, rfl, rfl, ⟨_, _, rfl, rfl, rfl⟩⟩; rfl
 ·rintro rfl; exact ⟨[_], [_, _], rfl, rfl, ⟨[_], [_], rfl, rfl, rfl⟩⟩
theorem QgF {w0 w : World} {s : PHeap} {H : List Res} {xs : List Edge} {v : Value} {r : List Edge} (hm : KJ xs = some r) (hS : St w0 s (Res.arr encEdge 85 v xs :: H) w) :
  Calls Tryz.prog 87 #[v, Value.func (.func 137) #[] #[]] w fun e w' => ∃ u, e = .returned u ∧ ((fun (l : List Edge) => ∃ (s' : PHeap), PHeap.le s s' ∧ St w0 s' (Res.arr encEdge 85 v l :: H) w' ∧ u = Value.tuple #[]) r) := by
 unfold KJ at hm
 split at hm
 ·rename_i hlen
  have hr := Zu hm
  subst hr
  have key : ∀ x y : Edge, ltOf Qbs x y = decide (Qbs x y < 0) := fun _ _ => rfl
  have h := QfO (P := Tryz.prog) (ρ := QeO) (E := encEdge) (enc := Qkh) (k := 3) Qne (fun _ => by exact Tryz.isAgg85 _) (fun _ => by exact Tryz.sizeOf85 _) (by decide) (fun _ => rfl)
   (fun x v hv => by simp [Qkh] at hv; rcases hv with rfl | rfl | rfl <;> rfl) Qi7 rfl Qbs
   ⟨fun x => by rw [key]; simp [Qaz], fun x y z h1 h2 => by rw [key] at *; simp only [decide_eq_true_eq, Qaz] at *; omega, fun x y z h1 h2 => by rw [key] at *; simp only [decide_eq_false_iff_not, Qaz] at *; omega⟩
   137 (enters_of Tryz.func137 (by kernel_rfl) rfl)
   (fun W x y => (QdB (Qk1 x y) (Qex W)).mono fun e w' ⟨v, he, s', h1, h2, h3⟩ => ⟨v, he, s', h1, h2, h3⟩)
   (fun x y h1 h2 => by
    rw [key] at *
    simp only [decide_eq_false_iff_not, Qaz] at *
    obtain ⟨a, b, c⟩ := x
    obtain ⟨d, e, f⟩ := y
    simp only [Edge.mk.injEq] at *
    omega) hlen hS
  refine h.mono ?_
  rintro e w' ⟨rfl, hS'⟩
  exact ⟨_, Z, s, Zv _, hS', Z⟩
 ·cases hm
end Go.Pw
