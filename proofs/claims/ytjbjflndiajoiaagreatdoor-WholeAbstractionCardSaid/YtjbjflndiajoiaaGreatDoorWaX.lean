/- -/
import Derived.Test.YtjbjflndiajoiaaGreatDoorWa6
import Derived.Test.YtjbjflndiajoiaaGreatDoorWaC
import Derived.Test.YtjbjflndiajoiaaGreatDoorWsA
set_option maxRecDepth 100000
set_option maxHeartbeats 4000000
set_option linter.unusedSimpArgs false
set_option linter.unusedVariables false
namespace Go.Pw
open Go.Proofs Go.Shelf Go.RowKit Go.Lib Go.Sort
def Qgm : Go.Shelf.Ren := ⟨fun | 6 => 86 | 15 => 80 | 14 => 122 | 28 => 112 | 29 => 113 | 20 => 151 | 21 => 152 | 22 => 153 | 23 => 154 | 24 => 155 | 25 => 156 | 26 => 157 | 27 => 158 | 46 => 173 | 47 => 140 | 48 => 141 | 49 => 174 | 50 => 175 | 57 => 204 | n => n, fun | 22 => 55 | 24 => 100 | 25 => 152 | 3 => 3 | 39 => 147 | 0 => 0 | 53 => 192 | 55 => 194 | 4 => 4 | 46 => 186 | 45 => 185 | 50 => 92 | 5 => 5 | 9 => 9 | 66 => 223 | 70 => 227 | 76 => 254 | 77 => 195 | n => n, fun | n => n⟩
theorem Qpk : Go.Proofs.SlLaysF0.n6 Tryz.prog Qgm := {
 mixed := by kernel_rfl,
 f6 := ⟨Tryz.f86.name, by decide, Tryz.func86.trans (congrArg some (by kernel_rfl))⟩,
 f14 := ⟨Tryz.f122.name, by decide, Tryz.func122.trans (congrArg some (by kernel_rfl))⟩,
 f15 := Tryz.func80.trans (congrArg some (by kernel_rfl)),
 f20 := ⟨Tryz.f151.name, by decide, Tryz.func151.trans (congrArg some (by kernel_rfl))⟩,
 f21 := ⟨Tryz.f152.name, by decide, Tryz.func152.trans (congrArg some (by kernel_rfl))⟩,
 f22 := ⟨Tryz.f153.name, by decide, Tryz.func153.trans (congrArg some (by kernel_rfl))⟩,
 f23 := ⟨Tryz.f154.name, by decide, Tryz.func154.trans (congrArg some (by kernel_rfl))⟩,
 f24 := ⟨Tryz.f155.name, by decide, Tryz.func155.trans (congrArg some (by kernel_rfl))⟩,
 f25 := ⟨Tryz.f156.name, by decide, Tryz.func156.trans (congrArg some (by kernel_rfl))⟩,
 f26 := ⟨Tryz.f157.name, by decide, Tryz.func157.trans (congrArg some (by kernel_rfl))⟩,
 f27 := ⟨Tryz.f158.name, by decide, Tryz.func158.trans (congrArg some (by kernel_rfl))⟩,
 f28 := Tryz.func112.trans (congrArg some (by kernel_rfl)),
 f29 := Tryz.func113.trans (congrArg some (by kernel_rfl)),
 f46 := ⟨Tryz.f173.name, by decide, Tryz.func173.trans (congrArg some (by kernel_rfl))⟩,
 f47 := Tryz.func140.trans (congrArg some (by kernel_rfl)),
 f48 := Tryz.func141.trans (congrArg some (by kernel_rfl)),
 f49 := ⟨Tryz.f174.name, by decide, Tryz.func174.trans (congrArg some (by kernel_rfl))⟩,
 f50 := ⟨Tryz.f175.name, by decide, Tryz.func175.trans (congrArg some (by kernel_rfl))⟩,
 f57 := ⟨Tryz.f204.name, by decide, Tryz.func204.trans (congrArg some (by kernel_rfl))⟩,
 t0 := Tryz.underlying0,
 a0 := Tryz.isAgg0,
 z0 := Tryz.sizeOf0,
 v0 := Tryz.zeroValue0,
 t3 := Tryz.underlying3,
 a3 := Tryz.isAgg3,
 z3 := Tryz.sizeOf3,
 v3 := Tryz.zeroValue3,
 t4 := Tryz.underlying4,
 a4 := Tryz.isAgg4,
 z4 := Tryz.sizeOf4,
 v4 := Tryz.zeroValue4,
 t5 := Tryz.underlying5,
 a5 := Tryz.isAgg5,
 z5 := Tryz.sizeOf5,
 v5 := Tryz.zeroValue5,
 t9 := Tryz.underlying9,
 a9 := Tryz.isAgg9,
 z9 := Tryz.sizeOf9,
 v9 := Tryz.zeroValue9,
 t22 := Tryz.underlying55,
 a22 := Tryz.isAgg55,
 z22 := Tryz.sizeOf55,
 v22 := Tryz.zeroValue55,
 t25 := Tryz.underlying152,
 a25 := Tryz.isAgg152,
 z25 := Tryz.sizeOf152,
 v25 := Tryz.zeroValue152,
 t39 := Tryz.underlying147,
 a39 := Tryz.isAgg147,
 z39 := Tryz.sizeOf147,
 v39 := Tryz.zeroValue147,
 t45 := Tryz.underlying185,
 a45 := Tryz.isAgg185,
 z45 := Tryz.sizeOf185,
 v45 := Tryz.zeroValue185,
 t46 := Tryz.underlying186,
 a46 := Tryz.isAgg186,
 z46 := Tryz.sizeOf186,
 v46 := Tryz.zeroValue186,
 t50 := Tryz.underlying92,
 a50 := Tryz.isAgg92,
 z50 := Tryz.sizeOf92,
 v50 := Tryz.zeroValue92,
 t53 := Tryz.underlying192,
 a53 := Tryz.isAgg192,
 z53 := Tryz.sizeOf192,
 v53 := Tryz.zeroValue192,
 t55 := Tryz.underlying194,
 a55 := Tryz.isAgg194,
 z55 := Tryz.sizeOf194,
 v55 := Tryz.zeroValue194,
 t66 := Tryz.underlying223,
 a66 := Tryz.isAgg223,
 z66 := Tryz.sizeOf223,
 v66 := Tryz.zeroValue223,
 t70 := Tryz.underlying227,
 a70 := Tryz.isAgg227,
 z70 := Tryz.sizeOf227,
 v70 := Tryz.zeroValue227,
 t76 := Tryz.underlying254,
 a76 := Tryz.isAgg254,
 z76 := Tryz.sizeOf254,
 v76 := Tryz.zeroValue254,
 t77 := Tryz.underlying195,
 a77 := Tryz.isAgg195,
 z77 := Tryz.sizeOf195,
 v77 := Tryz.zeroValue195 }
def QlZ (x : Edge) : List Value := [.int .i64 x.From, .int .i64 x.Label, .int .i64 x.To]
instance : Inhabited Edge := ⟨⟨0, 0, 0⟩⟩
theorem Qku (s : PHeap) (cs : List Value) (x : Edge) : encEdge.rep s cs x ↔ cs = QlZ x := by
 simp only [encEdge, Enc.iso, Enc.pair, U, K1, QlZ]
 constructor
 ·rintro ⟨_, _, rfl, rfl, ⟨_, _, rfl, rfl, rfl⟩⟩; rfl
 ·rintro rfl; exact ⟨[_], [_, _], rfl, rfl, ⟨[_], [_], rfl, rfl, rfl⟩⟩
theorem Qiw {w0 w : World} {s : PHeap} {H : List Res} {xs : List Edge} {v : Value} {r : List Edge} (hm : KE xs = some r) (hS : St w0 s (Res.arr encEdge 100 v xs :: H) w) :
  Calls Tryz.prog 86 #[v, Value.func (.func 149) #[] #[]] w fun e w' => ∃ u, e = .returned u ∧ ((fun (l : List Edge) => ∃ (s' : PHeap), PHeap.le s s' ∧ St w0 s' (Res.arr encEdge 100 v l :: H) w' ∧ u = Value.tuple #[]) r) := by
 unfold KE at hm
 split at hm
 ·rename_i hlen
  have hr := Zu hm
  subst hr
  have key : ∀ x y : Edge, ltOf Qck x y = decide (Qck x y < 0) := fun _ _ => rfl
  have h := Qhr (P := Tryz.prog) (ρ := Qgm) (E := encEdge) (enc := QlZ) (k := 3) Qpk (fun _ => by exact Tryz.isAgg100 _) (fun _ => by exact Tryz.sizeOf100 _) (by decide) (fun _ => rfl)
   (fun x v hv => by simp [QlZ] at hv; rcases hv with rfl | rfl | rfl <;> rfl) Qku rfl Qck
   ⟨fun x => by rw [key]; simp [Qbk], fun x y z h1 h2 => by rw [key] at *; simp only [decide_eq_true_eq, Qbk] at *; omega, fun x y z h1 h2 => by rw [key] at *; simp only [decide_eq_false_iff_not, Qbk] at *; omega⟩
   149 (enters_of Tryz.func149 (by kernel_rfl) rfl)
   (fun W x y => (QeI (Qmu x y) (QfC W)).mono fun e w' ⟨v, he, s', h1, h2, h3⟩ => ⟨v, he, s', h1, h2, h3⟩)
   (fun x y h1 h2 => by
    rw [key] at *
    simp only [decide_eq_false_iff_not, Qbk] at *
    obtain ⟨a, b, c⟩ := x
    obtain ⟨d, e, f⟩ := y
    simp only [Edge.mk.injEq] at *
    omega) hlen hS
  refine h.mono ?_
  rintro e w' ⟨rfl, hS'⟩
  exact ⟨_, Z, s, Zv _, hS', Z⟩
 ·cases hm
end Go.Pw
