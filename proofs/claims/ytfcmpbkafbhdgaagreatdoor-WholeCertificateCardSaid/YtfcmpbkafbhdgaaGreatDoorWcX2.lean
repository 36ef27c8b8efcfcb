/- -/
import Derived.Test.YtfcmpbkafbhdgaaGreatDoorWc3
import Derived.Test.YtfcmpbkafbhdgaaGreatDoorWcTa
import Derived.Test.YtfcmpbkafbhdgaaGreatDoorL65
set_option maxRecDepth 100000
set_option maxHeartbeats 4000000
set_option linter.unusedSimpArgs false
set_option linter.unusedVariables false
namespace Go.Pw
open Go.Proofs Go.Shelf Go.RowKit Go.Lib Go.Sort
def Qgx : Go.Shelf.Ren := ⟨fun | 6 => 54 | 15 => 79 | 14 => 78 | 28 => 108 | 29 => 109 | 20 => 100 | 21 => 101 | 22 => 102 | 23 => 103 | 24 => 104 | 25 => 105 | 26 => 106 | 27 => 107 | 46 => 125 | 47 => 126 | 48 => 127 | 49 => 128 | 50 => 129 | 57 => 145 | n => n, fun | 22 => 70 | 24 => 23 | 25 => 115 | 3 => 3 | 39 => 144 | 0 => 0 | 53 => 172 | 55 => 174 | 4 => 4 | 46 => 166 | 45 => 165 | 50 => 88 | 5 => 5 | 9 => 9 | 66 => 192 | 70 => 196 | 76 => 204 | 77 => 205 | n => n, fun | n => n⟩
theorem Qmv : Go.Proofs.SlLaysF.n6 Tryz.prog Qgx := {
 mixed := by kernel_rfl,
 f6 := ⟨Tryz.f54.name, by decide, Tryz.func54.trans (congrArg some (by kernel_rfl))⟩,
 f14 := ⟨Tryz.f78.name, by decide, Tryz.func78.trans (congrArg some (by kernel_rfl))⟩,
 f15 := Tryz.func79.trans (congrArg some (by kernel_rfl)),
 f20 := ⟨Tryz.f100.name, by decide, Tryz.func100.trans (congrArg some (by kernel_rfl))⟩,
 f21 := ⟨Tryz.f101.name, by decide, Tryz.func101.trans (congrArg some (by kernel_rfl))⟩,
 f22 := ⟨Tryz.f102.name, by decide, Tryz.func102.trans (congrArg some (by kernel_rfl))⟩,
 f23 := ⟨Tryz.f103.name, by decide, Tryz.func103.trans (congrArg some (by kernel_rfl))⟩,
 f24 := ⟨Tryz.f104.name, by decide, Tryz.func104.trans (congrArg some (by kernel_rfl))⟩,
 f25 := ⟨Tryz.f105.name, by decide, Tryz.func105.trans (congrArg some (by kernel_rfl))⟩,
 f26 := ⟨Tryz.f106.name, by decide, Tryz.func106.trans (congrArg some (by kernel_rfl))⟩,
 f27 := ⟨Tryz.f107.name, by decide, Tryz.func107.trans (congrArg some (by kernel_rfl))⟩,
 f28 := Tryz.func108.trans (congrArg some (by kernel_rfl)),
 f29 := Tryz.func109.trans (congrArg some (by kernel_rfl)),
 f46 := ⟨Tryz.f125.name, by decide, Tryz.func125.trans (congrArg some (by kernel_rfl))⟩,
 f47 := Tryz.func126.trans (congrArg some (by kernel_rfl)),
 f48 := Tryz.func127.trans (congrArg some (by kernel_rfl)),
 f49 := ⟨Tryz.f128.name, by decide, Tryz.func128.trans (congrArg some (by kernel_rfl))⟩,
 f50 := ⟨Tryz.f129.name, by decide, Tryz.func129.trans (congrArg some (by kernel_rfl))⟩,
 f57 := ⟨Tryz.f145.name, by decide, Tryz.func145.trans (congrArg some (by kernel_rfl))⟩,
 t0 := Tryz.underlying0,
 a0 := Tryz.isAgg0,
 z0 := Tryz.sizeOf0,
 v0 := Tryz.zeroValue0,
 t3 := Tryz.underlying3,
 a3 := Tryz.isAgg3,
 z3 := Tryz.sizeOf3,
 v3 := Tryz.zeroValue3,
 t4 := Tryz.underlying4,
 a4 := Tryz.isAgg4,
 z4 := Tryz.sizeOf4,
 v4 := Tryz.zeroValue4,
 t5 := Tryz.underlying5,
 a5 := Tryz.isAgg5,
 z5 := Tryz.sizeOf5,
 v5 := Tryz.zeroValue5,
 t9 := Tryz.underlying9,
 a9 := Tryz.isAgg9,
 z9 := Tryz.sizeOf9,
 v9 := Tryz.zeroValue9,
 t22 := Tryz.underlying70,
 a22 := Tryz.isAgg70,
 z22 := Tryz.sizeOf70,
 v22 := Tryz.zeroValue70,
 a24 := Tryz.isAgg23,
 z24 := Tryz.sizeOf23,
 t25 := Tryz.underlying115,
 a25 := Tryz.isAgg115,
 z25 := Tryz.sizeOf115,
 v25 := Tryz.zeroValue115,
 t39 := Tryz.underlying144,
 a39 := Tryz.isAgg144,
 z39 := Tryz.sizeOf144,
 v39 := Tryz.zeroValue144,
 t45 := Tryz.underlying165,
 a45 := Tryz.isAgg165,
 z45 := Tryz.sizeOf165,
 v45 := Tryz.zeroValue165,
 t46 := Tryz.underlying166,
 a46 := Tryz.isAgg166,
 z46 := Tryz.sizeOf166,
 v46 := Tryz.zeroValue166,
 t50 := Tryz.underlying88,
 a50 := Tryz.isAgg88,
 z50 := Tryz.sizeOf88,
 v50 := Tryz.zeroValue88,
 t53 := Tryz.underlying172,
 a53 := Tryz.isAgg172,
 z53 := Tryz.sizeOf172,
 v53 := Tryz.zeroValue172,
 t55 := Tryz.underlying174,
 a55 := Tryz.isAgg174,
 z55 := Tryz.sizeOf174,
 v55 := Tryz.zeroValue174,
 t66 := Tryz.underlying192,
 a66 := Tryz.isAgg192,
 z66 := Tryz.sizeOf192,
 v66 := Tryz.zeroValue192,
 t70 := Tryz.underlying196,
 a70 := Tryz.isAgg196,
 z70 := Tryz.sizeOf196,
 v70 := Tryz.zeroValue196,
 t76 := Tryz.underlying204,
 a76 := Tryz.isAgg204,
 z76 := Tryz.sizeOf204,
 v76 := Tryz.zeroValue204,
 t77 := Tryz.underlying205,
 a77 := Tryz.isAgg205,
 z77 := Tryz.sizeOf205,
 v77 := Tryz.zeroValue205 }
theorem LLt.ntrans {x y z : List Fact} (h1 : ¬ LLt x y) (h2 : ¬ LLt y z) : ¬ LLt x z := fun h => by
 rcases QeY x y with a | rfl | a
 ·exact h1 a
 ·exact h2 h
 ·exact h2 (a.trans h)
theorem Qgb {w0 w : World} {s : PHeap} {H : List Res} {xs : List (List Fact)} {v : Value} {r : List (List Fact)} (hm : Qas xs = some r) (hS : St w0 s (Res.arr (Qa encFact) 23 v xs :: H) w) :
  Calls Tryz.prog 54 #[v, Value.func (.func 55) #[] #[]] w fun e w' => ∃ u, e = .returned u ∧ ((fun (l : List (List Fact)) => ∃ (s' : PHeap), PHeap.le s s' ∧ St w0 s' (Res.arr (Qa encFact) 23 v l :: H) w' ∧ u = Value.tuple #[]) r) := by
 unfold Qas at hm
 split at hm
 ·rename_i hlen
  have hr := Zu hm
  subst hr
  have key : ∀ x y : List Fact, ltOf K5 x y = decide (K5 x y < 0) := fun _ _ => rfl
  refine (Qjo (P := Tryz.prog) (ρ := Qgx) Qmv K5
   ⟨fun x => by rw [key]; simp [Qag, LLt.irrefl], fun x y z h1 h2 => by rw [key] at *; simp only [decide_eq_true_eq, Qag] at *; exact h1.trans h2, fun x y z h1 h2 => by rw [key] at *; simp only [decide_eq_false_iff_not, Qag] at *; exact LLt.ntrans h1 h2⟩
   (fun x y h1 h2 => by rw [key] at *; simp only [decide_eq_false_iff_not, Qag] at *; exact ((QeY x y).resolve_left h1).resolve_right h2)
   55 (enters_of Tryz.func55 (by kernel_rfl) rfl)
   (fun W t hle u1 u2 x y h1 h2 => (K7 (QbI x y) (Qfv W) (h1.mono hle) (h2.mono hle)).mono fun e w' ⟨v, he, s', l, hS', hv⟩ => ⟨by rw [he, hv], QfB l hS'⟩) hlen hS).mono ?_
  rintro e w' ⟨rfl, hS'⟩
  exact ⟨_, Z, s, Zv _, hS', Z⟩
 ·cases hm
end Go.Pw
