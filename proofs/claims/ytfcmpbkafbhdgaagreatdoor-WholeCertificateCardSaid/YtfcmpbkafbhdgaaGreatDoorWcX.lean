/- -/
import Derived.Test.YtfcmpbkafbhdgaaGreatDoorWc1
import Derived.Test.YtfcmpbkafbhdgaaGreatDoorWcTa
import Derived.Test.YtfcmpbkafbhdgaaGreatDoorL13
set_option maxRecDepth 100000
set_option maxHeartbeats 4000000
set_option linter.unusedSimpArgs false
set_option linter.unusedVariables false
namespace Go.Pw
open Go.Proofs Go.Shelf Go.RowKit Go.Lib Go.Sort
def Qf8 : Go.Shelf.Ren := ⟨fun | 6 => 141 | 15 => 79 | 14 => 151 | 28 => 108 | 29 => 109 | 20 => 155 | 21 => 156 | 22 => 157 | 23 => 158 | 24 => 159 | 25 => 160 | 26 => 161 | 27 => 162 | 46 => 164 | 47 => 126 | 48 => 127 | 49 => 165 | 50 => 166 | 57 => 168 | n => n, fun | 22 => 23 | 24 => 52 | 25 => 148 | 3 => 3 | 39 => 144 | 0 => 0 | 53 => 172 | 55 => 174 | 4 => 4 | 46 => 166 | 45 => 165 | 50 => 88 | 5 => 5 | 9 => 9 | 66 => 192 | 70 => 196 | 76 => 204 | 77 => 205 | n => n, fun | n => n⟩
theorem QlU : Go.Proofs.SlLaysF0.n6 Tryz.prog Qf8 := {
 mixed := by kernel_rfl,
 f6 := ⟨Tryz.f141.name, by decide, Tryz.func141.trans (congrArg some (by kernel_rfl))⟩,
 f14 := ⟨Tryz.f151.name, by decide, Tryz.func151.trans (congrArg some (by kernel_rfl))⟩,
 f15 := Tryz.func79.trans (congrArg some (by kernel_rfl)),
 f20 := ⟨Tryz.f155.name, by decide, Tryz.func155.trans (congrArg some (by kernel_rfl))⟩,
 f21 := ⟨Tryz.f156.name, by decide, Tryz.func156.trans (congrArg some (by kernel_rfl))⟩,
 f22 := ⟨Tryz.f157.name, by decide, Tryz.func157.trans (congrArg some (by kernel_rfl))⟩,
 f23 := ⟨Tryz.f158.name, by decide, Tryz.func158.trans (congrArg some (by kernel_rfl))⟩,
 f24 := ⟨Tryz.f159.name, by decide, Tryz.func159.trans (congrArg some (by kernel_rfl))⟩,
 f25 := ⟨Tryz.f160.name, by decide, Tryz.func160.trans (congrArg some (by kernel_rfl))⟩,
 f26 := ⟨Tryz.f161.name, by decide, Tryz.func161.trans (congrArg some (by kernel_rfl))⟩,
 f27 := ⟨Tryz.f162.name, by decide, Tryz.func162.trans (congrArg some (by kernel_rfl))⟩,
 f28 := Tryz.func108.trans (congrArg some (by kernel_rfl)),
 f29 := Tryz.func109.trans (congrArg some (by kernel_rfl)),
 f46 := ⟨Tryz.f164.name, by decide, Tryz.func164.trans (congrArg some (by kernel_rfl))⟩,
 f47 := Tryz.func126.trans (congrArg some (by kernel_rfl)),
 f48 := Tryz.func127.trans (congrArg some (by kernel_rfl)),
 f49 := ⟨Tryz.f165.name, by decide, Tryz.func165.trans (congrArg some (by kernel_rfl))⟩,
 f50 := ⟨Tryz.f166.name, by decide, Tryz.func166.trans (congrArg some (by kernel_rfl))⟩,
 f57 := ⟨Tryz.f168.name, by decide, Tryz.func168.trans (congrArg some (by kernel_rfl))⟩,
 t0 := Tryz.underlying0,
 a0 := Tryz.isAgg0,
 z0 := Tryz.sizeOf0,
 v0 := Tryz.zeroValue0,
 t3 := Tryz.underlying3,
 a3 := Tryz.isAgg3,
 z3 := Tryz.sizeOf3,
 v3 := Tryz.zeroValue3,
 t4 := Tryz.underlying4,
 a4 := Tryz.isAgg4,
 z4 := Tryz.sizeOf4,
 v4 := Tryz.zeroValue4,
 t5 := Tryz.underlying5,
 a5 := Tryz.isAgg5,
 z5 := Tryz.sizeOf5,
 v5 := Tryz.zeroValue5,
 t9 := Tryz.underlying9,
 a9 := Tryz.isAgg9,
 z9 := Tryz.sizeOf9,
 v9 := Tryz.zeroValue9,
 t22 := Tryz.underlying23,
 a22 := Tryz.isAgg23,
 z22 := Tryz.sizeOf23,
 v22 := Tryz.zeroValue23,
 t25 := Tryz.underlying148,
 a25 := Tryz.isAgg148,
 z25 := Tryz.sizeOf148,
 v25 := Tryz.zeroValue148,
 t39 := Tryz.underlying144,
 a39 := Tryz.isAgg144,
 z39 := Tryz.sizeOf144,
 v39 := Tryz.zeroValue144,
 t45 := Tryz.underlying165,
 a45 := Tryz.isAgg165,
 z45 := Tryz.sizeOf165,
 v45 := Tryz.zeroValue165,
 t46 := Tryz.underlying166,
 a46 := Tryz.isAgg166,
 z46 := Tryz.sizeOf166,
 v46 := Tryz.zeroValue166,
 t50 := Tryz.underlying88,
 a50 := Tryz.isAgg88,
 z50 := Tryz.sizeOf88,
 v50 := Tryz.zeroValue88,
 t53 := Tryz.underlying172,
 a53 := Tryz.isAgg172,
 z53 := Tryz.sizeOf172,
 v53 := Tryz.zeroValue172,
 t55 := Tryz.underlying174,
 a55 := Tryz.isAgg174,
 z55 := Tryz.sizeOf174,
 v55 := Tryz.zeroValue174,
 t66 := Tryz.underlying192,
 a66 := Tryz.isAgg192,
 z66 := Tryz.sizeOf192,
 v66 := Tryz.zeroValue192,
 t70 := Tryz.underlying196,
 a70 := Tryz.isAgg196,
 z70 := Tryz.sizeOf196,
 v70 := Tryz.zeroValue196,
 t76 := Tryz.underlying204,
 a76 := Tryz.isAgg204,
 z76 := Tryz.sizeOf204,
 v76 := Tryz.zeroValue204,
 t77 := Tryz.underlying205,
 a77 := Tryz.isAgg205,
 z77 := Tryz.sizeOf205,
 v77 := Tryz.zeroValue205 }
def QkP (x : Fact) : List Value := [.int .i64 x.Var, .int .i64 x.Val]
instance inhF : Inhabited Fact := ⟨⟨0, 0⟩⟩
theorem Qk6 (s : PHeap) (cs : List Value) (x : Fact) : encFact.rep s cs x ↔ cs = QkP x := by
 simp only [encFact, Enc.iso, Enc.pair, Qc, Y7, QkP]
 constructor
 ·rintro ⟨_, _, rfl, rfl, rfl⟩; rfl
 ·rintro rfl; exact ⟨[_], [_], rfl, rfl, rfl⟩
theorem Qgc {w0 w : World} {s : PHeap} {H : List Res} {xs : List Fact} {v : Value} {r : List Fact} (hm : Qat xs = some r) (hS : St w0 s (Res.arr encFact 52 v xs :: H) w) :
  Calls Tryz.prog 141 #[v, Value.func (.func 142) #[] #[]] w fun e w' => ∃ u, e = .returned u ∧ ((fun (l : List Fact) => ∃ (s' : PHeap), PHeap.le s s' ∧ St w0 s' (Res.arr encFact 52 v l :: H) w' ∧ u = Value.tuple #[]) r) := by
 unfold Qat at hm
 split at hm
 ·rename_i hlen
  have hr := Zu hm
  subst hr
  have key : ∀ x y : Fact, ltOf Qbr x y = decide (Qbr x y < 0) := fun _ _ => rfl
  have h := Qkl (P := Tryz.prog) (ρ := Qf8) (E := encFact) (enc := QkP) (k := 2) QlU (fun _ => by exact Tryz.isAgg52 _) (fun _ => by exact Tryz.sizeOf52 _) (by decide) (fun _ => rfl)
   (fun x v hv => by simp [QkP] at hv; rcases hv with rfl | rfl <;> rfl) Qk6 rfl Qbr
   ⟨fun x => by rw [key]; simp [Qb2, FLt], fun x y z h1 h2 => by rw [key] at *; simp only [decide_eq_true_eq, Qb2, FLt] at *; omega, fun x y z h1 h2 => by rw [key] at *; simp only [decide_eq_false_iff_not, Qb2, FLt] at *; omega⟩
   142 (enters_of Tryz.func142 (by kernel_rfl) rfl)
   (fun W x y => (QcJ (Qkw x y) (Qfv W)).mono fun e w' ⟨v, he, s', h1, h2, h3⟩ => ⟨v, he, s', h1, h2, h3⟩)
   (fun x y h1 h2 => by
    rw [key] at *
    simp only [decide_eq_false_iff_not, Qb2, FLt] at *
    obtain ⟨a, b⟩ := x
    obtain ⟨d, e⟩ := y
    simp only [Fact.mk.injEq] at *
    omega) hlen hS
  refine h.mono ?_
  rintro e w' ⟨rfl, hS'⟩
  exact ⟨_, Z, s, Zv _, hS', Z⟩
 ·cases hm
end Go.Pw
