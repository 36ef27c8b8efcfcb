/- -/
import Derived.Test.YtjbjflndiajoiaaGreatDoorWa3
import Derived.Test.YtjbjflndiajoiaaGreatDoorWaC
import Derived.Test.YtjbjflndiajoiaaGreatDoorWsA
set_option maxRecDepth 100000
set_option maxHeartbeats 4000000
set_option linter.unusedSimpArgs false
set_option linter.unusedVariables false
namespace Go.Pw
open Go.Proofs Go.Shelf Go.RowKit Go.Lib Go.Sort
def QhM : Go.Shelf.Ren := ⟨fun | 6 => 146 | 15 => 80 | 14 => 172 | 28 => 112 | 29 => 113 | 20 => 196 | 21 => 197 | 22 => 198 | 23 => 199 | 24 => 200 | 25 => 201 | 26 => 202 | 27 => 203 | 46 => 217 | 47 => 140 | 48 => 141 | 49 => 218 | 50 => 219 | 57 => 228 | n => n, fun | 22 => 231 | 24 => 232 | 25 => 234 | 3 => 3 | 39 => 147 | 0 => 0 | 53 => 192 | 55 => 194 | 4 => 4 | 46 => 186 | 45 => 185 | 50 => 92 | 5 => 5 | 9 => 9 | 66 => 223 | 70 => 227 | 76 => 254 | 77 => 195 | n => n, fun | n => n⟩
theorem QpN : Go.Proofs.SlLaysF0.n6 Tryz.prog QhM := {
 mixed := by kernel_rfl,
 f6 := ⟨Tryz.f146.name, by decide, Tryz.func146.trans (congrArg some (by kernel_rfl))⟩,
 f14 := ⟨Tryz.f172.name, by decide, Tryz.func172.trans (congrArg some (by kernel_rfl))⟩,
 f15 := Tryz.func80.trans (congrArg some (by kernel_rfl)),
 f20 := ⟨Tryz.f196.name, by decide, Tryz.func196.trans (congrArg some (by kernel_rfl))⟩,
 f21 := ⟨Tryz.f197.name, by decide, Tryz.func197.trans (congrArg some (by kernel_rfl))⟩,
 f22 := ⟨Tryz.f198.name, by decide, Tryz.func198.trans (congrArg some (by kernel_rfl))⟩,
 f23 := ⟨Tryz.f199.name, by decide, Tryz.func199.trans (congrArg some (by kernel_rfl))⟩,
 f24 := ⟨Tryz.f200.name, by decide, Tryz.func200.trans (congrArg some (by kernel_rfl))⟩,
 f25 := ⟨Tryz.f201.name, by decide, Tryz.func201.trans (congrArg some (by kernel_rfl))⟩,
 f26 := ⟨Tryz.f202.name, by decide, Tryz.func202.trans (congrArg some (by kernel_rfl))⟩,
 f27 := ⟨Tryz.f203.name, by decide, Tryz.func203.trans (congrArg some (by kernel_rfl))⟩,
 f28 := Tryz.func112.trans (congrArg some (by kernel_rfl)),
 f29 := Tryz.func113.trans (congrArg some (by kernel_rfl)),
 f46 := ⟨Tryz.f217.name, by decide, Tryz.func217.trans (congrArg some (by kernel_rfl))⟩,
 f47 := Tryz.func140.trans (congrArg some (by kernel_rfl)),
 f48 := Tryz.func141.trans (congrArg some (by kernel_rfl)),
 f49 := ⟨Tryz.f218.name, by decide, Tryz.func218.trans (congrArg some (by kernel_rfl))⟩,
 f50 := ⟨Tryz.f219.name, by decide, Tryz.func219.trans (congrArg some (by kernel_rfl))⟩,
 f57 := ⟨Tryz.f228.name, by decide, Tryz.func228.trans (congrArg some (by kernel_rfl))⟩,
 t0 := Tryz.underlying0,
 a0 := Tryz.isAgg0,
 z0 := Tryz.sizeOf0,
 v0 := Tryz.zeroValue0,
 t3 := Tryz.underlying3,
 a3 := Tryz.isAgg3,
 z3 := Tryz.sizeOf3,
 v3 := Tryz.zeroValue3,
 t4 := Tryz.underlying4,
 a4 := Tryz.isAgg4,
 z4 := Tryz.sizeOf4,
 v4 := Tryz.zeroValue4,
 t5 := Tryz.underlying5,
 a5 := Tryz.isAgg5,
 z5 := Tryz.sizeOf5,
 v5 := Tryz.zeroValue5,
 t9 := Tryz.underlying9,
 a9 := Tryz.isAgg9,
 z9 := Tryz.sizeOf9,
 v9 := Tryz.zeroValue9,
 t22 := Tryz.underlying231,
 a22 := Tryz.isAgg231,
 z22 := Tryz.sizeOf231,
 v22 := Tryz.zeroValue231,
 t25 := Tryz.underlying234,
 a25 := Tryz.isAgg234,
 z25 := Tryz.sizeOf234,
 v25 := Tryz.zeroValue234,
 t39 := Tryz.underlying147,
 a39 := Tryz.isAgg147,
 z39 := Tryz.sizeOf147,
 v39 := Tryz.zeroValue147,
 t45 := Tryz.underlying185,
 a45 := Tryz.isAgg185,
 z45 := Tryz.sizeOf185,
 v45 := Tryz.zeroValue185,
 t46 := Tryz.underlying186,
 a46 := Tryz.isAgg186,
 z46 := Tryz.sizeOf186,
 v46 := Tryz.zeroValue186,
 t50 := Tryz.underlying92,
 a50 := Tryz.isAgg92,
 z50 := Tryz.sizeOf92,
 v50 := Tryz.zeroValue92,
 t53 := Tryz.underlying192,
 a53 := Tryz.isAgg192,
 z53 := Tryz.sizeOf192,
 v53 := Tryz.zeroValue192,
 t55 := Tryz.underlying194,
 a55 := Tryz.isAgg194,
 z55 := Tryz.sizeOf194,
 v55 := Tryz.zeroValue194,
 t66 := Tryz.underlying223,
 a66 := Tryz.isAgg223,
 z66 := Tryz.sizeOf223,
 v66 := Tryz.zeroValue223,
 t70 := Tryz.underlying227,
 a70 := Tryz.isAgg227,
 z70 := Tryz.sizeOf227,
 v70 := Tryz.zeroValue227,
 t76 := Tryz.underlying254,
 a76 := Tryz.isAgg254,
 z76 := Tryz.sizeOf254,
 v76 := Tryz.zeroValue254,
 t77 := Tryz.underlying195,
 a77 := Tryz.isAgg195,
 z77 := Tryz.sizeOf195,
 v77 := Tryz.zeroValue195 }
def Ql7 (x : Arr2_int) : List Value := [.int .i64 x.a0, .int .i64 x.a1]
instance : Inhabited Arr2_int := ⟨⟨0, 0⟩⟩
theorem Qm8 (s : PHeap) (cs : List Value) (x : Arr2_int) : encArr2_int.rep s cs x ↔ cs = Ql7 x := by
 simp only [encArr2_int, Enc.iso, Enc.pair, U, K1, Ql7]
 constructor
 ·rintro ⟨_, _, rfl, rfl, rfl⟩; rfl
 ·rintro rfl; exact ⟨[_], [_], rfl, rfl, rfl⟩
theorem Qiv {w0 w : World} {s : PHeap} {H : List Res} {xs : List Arr2_int} {v : Value} {r : List Arr2_int} (hm : QbW xs = some r) (hS : St w0 s (Res.arr encArr2_int 232 v xs :: H) w) :
  Calls Tryz.prog 146 #[v, Value.func (.func 147) #[] #[]] w fun e w' => ∃ u, e = .returned u ∧ ((fun (l : List Arr2_int) => ∃ (s' : PHeap), PHeap.le s s' ∧ St w0 s' (Res.arr encArr2_int 232 v l :: H) w' ∧ u = Value.tuple #[]) r) := by
 unfold QbW at hm
 split at hm
 ·rename_i hlen
  have hr := Zu hm
  subst hr
  have key : ∀ x y : Arr2_int, ltOf Qhe x y = decide (Qhe x y < 0) := fun _ _ => rfl
  have h := Qhr (P := Tryz.prog) (ρ := QhM) (E := encArr2_int) (enc := Ql7) (k := 2) QpN (fun _ => by exact Tryz.isAgg232 _) (fun _ => by exact Tryz.sizeOf232 _) (by decide) (fun _ => rfl)
   (fun x v hv => by simp [Ql7] at hv; rcases hv with rfl | rfl <;> rfl) Qm8 rfl Qhe
   ⟨fun x => by rw [key]; simp [QcC], fun x y z h1 h2 => by rw [key] at *; simp only [decide_eq_true_eq, QcC] at *; omega, fun x y z h1 h2 => by rw [key] at *; simp only [decide_eq_false_iff_not, QcC] at *; omega⟩
   147 (enters_of Tryz.func147 (by kernel_rfl) rfl)
   (fun W x y => (Qey (QnI x y) (QfC W)).mono fun e w' ⟨v, he, s', h1, h2, h3⟩ => ⟨v, he, s', h1, h2, h3⟩)
   (fun x y h1 h2 => by
    rw [key] at *
    simp only [decide_eq_false_iff_not, QcC] at *
    obtain ⟨a, b⟩ := x
    obtain ⟨d, e⟩ := y
    simp only [Arr2_int.mk.injEq] at *
    omega) hlen hS
  refine h.mono ?_
  rintro e w' ⟨rfl, hS'⟩
  exact ⟨_, Z, s, Zv _, hS', Z⟩
 ·cases hm
end Go.Pw
