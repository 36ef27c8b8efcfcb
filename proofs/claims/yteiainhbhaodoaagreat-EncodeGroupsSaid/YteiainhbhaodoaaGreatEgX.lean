/- -/
import Derived.Test.YteiainhbhaodoaaGreatEg3
import Derived.Test.YteiainhbhaodoaaGreatL13
set_option maxHeartbeats 4000000
set_option linter.unusedSimpArgs false
set_option linter.unusedVariables false
namespace Go.Pw
open Go.Proofs Go.Shelf Go.RowKit Go.Lib Go.Sort
def QfE : Go.Shelf.Ren := ⟨fun | 6 => 77 | 15 => 92 | 14 => 91 | 28 => 114 | 29 => 115 | 20 => 106 | 21 => 107 | 22 => 108 | 23 => 109 | 24 => 110 | 25 => 111 | 26 => 112 | 27 => 113 | 46 => 128 | 47 => 129 | 48 => 130 | 49 => 131 | 50 => 132 | 57 => 136 | n => n, fun | 22 => 24 | 24 => 51 | 25 => 144 | 3 => 3 | 39 => 159 | 0 => 0 | 53 => 179 | 55 => 181 | 4 => 4 | 46 => 173 | 45 => 172 | 50 => 140 | 5 => 5 | 9 => 9 | 66 => 190 | 70 => 194 | 76 => 198 | 77 => 199 | n => n, fun | n => n⟩
theorem QkU : Go.Proofs.SlLaysF0.n6 Tryz.prog QfE := {
 mixed := by kernel_rfl,
 f6 := ⟨Tryz.f77.name, by decide, Tryz.func77.trans (congrArg some (by kernel_rfl))⟩,
 f14 := ⟨Tryz.f91.name, by decide, Tryz.func91.trans (congrArg some (by kernel_rfl))⟩,
 f15 := Tryz.func92.trans (congrArg some (by kernel_rfl)),
 f20 := ⟨Tryz.f106.name, by decide, Tryz.func106.trans (congrArg some (by kernel_rfl))⟩,
 f21 := ⟨Tryz.f107.name, by decide, Tryz.func107.trans (congrArg some (by kernel_rfl))⟩,
 f22 := ⟨Tryz.f108.name, by decide, Tryz.func108.trans (congrArg some (by kernel_rfl))⟩,
 f23 := ⟨Tryz.f109.name, by decide, Tryz.func109.trans (congrArg some (by kernel_rfl))⟩,
 f24 := ⟨Tryz.f110.name, by decide, Tryz.func110.trans (congrArg some (by kernel_rfl))⟩,
 f25 := ⟨Tryz.f111.name, by decide, Tryz.func111.trans (congrArg some (by kernel_rfl))⟩,
 f26 := ⟨Tryz.f112.name, by decide, Tryz.func112.trans (congrArg some (by kernel_rfl))⟩,
 f27 := ⟨Tryz.f113.name, by decide, Tryz.func113.trans (congrArg some (by kernel_rfl))⟩,
 f28 := Tryz.func114.trans (congrArg some (by kernel_rfl)),
 f29 := Tryz.func115.trans (congrArg some (by kernel_rfl)),
 f46 := ⟨Tryz.f128.name, by decide, Tryz.func128.trans (congrArg some (by kernel_rfl))⟩,
 f47 := Tryz.func129.trans (congrArg some (by kernel_rfl)),
 f48 := Tryz.func130.trans (congrArg some (by kernel_rfl)),
 f49 := ⟨Tryz.f131.name, by decide, Tryz.func131.trans (congrArg some (by kernel_rfl))⟩,
 f50 := ⟨Tryz.f132.name, by decide, Tryz.func132.trans (congrArg some (by kernel_rfl))⟩,
 f57 := ⟨Tryz.f136.name, by decide, Tryz.func136.trans (congrArg some (by kernel_rfl))⟩,
 t0 := Tryz.underlying0,
 a0 := Tryz.isAgg0,
 z0 := Tryz.sizeOf0,
 v0 := Tryz.zeroValue0,
 t3 := Tryz.underlying3,
 a3 := Tryz.isAgg3,
 z3 := Tryz.sizeOf3,
 v3 := Tryz.zeroValue3,
 t4 := Tryz.underlying4,
 a4 := Tryz.isAgg4,
 z4 := Tryz.sizeOf4,
 v4 := Tryz.zeroValue4,
 t5 := Tryz.underlying5,
 a5 := Tryz.isAgg5,
 z5 := Tryz.sizeOf5,
 v5 := Tryz.zeroValue5,
 t9 := Tryz.underlying9,
 a9 := Tryz.isAgg9,
 z9 := Tryz.sizeOf9,
 v9 := Tryz.zeroValue9,
 t22 := Tryz.underlying24,
 a22 := Tryz.isAgg24,
 z22 := Tryz.sizeOf24,
 v22 := Tryz.zeroValue24,
 t25 := Tryz.underlying144,
 a25 := Tryz.isAgg144,
 z25 := Tryz.sizeOf144,
 v25 := Tryz.zeroValue144,
 t39 := Tryz.underlying159,
 a39 := Tryz.isAgg159,
 z39 := Tryz.sizeOf159,
 v39 := Tryz.zeroValue159,
 t45 := Tryz.underlying172,
 a45 := Tryz.isAgg172,
 z45 := Tryz.sizeOf172,
 v45 := Tryz.zeroValue172,
 t46 := Tryz.underlying173,
 a46 := Tryz.isAgg173,
 z46 := Tryz.sizeOf173,
 v46 := Tryz.zeroValue173,
 t50 := Tryz.underlying140,
 a50 := Tryz.isAgg140,
 z50 := Tryz.sizeOf140,
 v50 := Tryz.zeroValue140,
 t53 := Tryz.underlying179,
 a53 := Tryz.isAgg179,
 z53 := Tryz.sizeOf179,
 v53 := Tryz.zeroValue179,
 t55 := Tryz.underlying181,
 a55 := Tryz.isAgg181,
 z55 := Tryz.sizeOf181,
 v55 := Tryz.zeroValue181,
 t66 := Tryz.underlying190,
 a66 := Tryz.isAgg190,
 z66 := Tryz.sizeOf190,
 v66 := Tryz.zeroValue190,
 t70 := Tryz.underlying194,
 a70 := Tryz.isAgg194,
 z70 := Tryz.sizeOf194,
 v70 := Tryz.zeroValue194,
 t76 := Tryz.underlying198,
 a76 := Tryz.isAgg198,
 z76 := Tryz.sizeOf198,
 v76 := Tryz.zeroValue198,
 t77 := Tryz.underlying199,
 a77 := Tryz.isAgg199,
 z77 := Tryz.sizeOf199,
 v77 := Tryz.zeroValue199 }
abbrev FR := {f : Fact // RF f}
instance inhFR : Inhabited FR := ⟨⟨⟨0, 0⟩, by unfold RF; decide⟩⟩
def encFR : Enc FR := Enc.iso encFact Subtype.val
def Qh9 (x : FR) : List Value := [.int .i64 x.1.Var, .int .i64 x.1.Val]
theorem Qi2 (s : PHeap) (cs : List Value) (x : FR) : encFR.rep s cs x ↔ cs = Qh9 x := by
 simp only [encFR, encFact, Enc.iso, Enc.pair, Qc, KO, Qh9]
 constructor
 ·rintro ⟨_, _, rfl, rfl, rfl⟩; rfl
 ·rintro rfl; exact ⟨[_], [_], rfl, rfl, rfl⟩
theorem QdO {α β : Type} (E : Enc α) (f : β → α) (s : PHeap) : ∀ (xs : List β) (cs : List Value), reps (Enc.iso E f) s cs xs ↔ reps E s cs (xs.map f)
 | [], _ => Iff.rfl
 | x :: xs, cs => by
  simp only [reps, List.map_cons]
  constructor
  ·rintro ⟨c, r, h1, h2, h3⟩; exact ⟨c, r, h1, h2, (QdO E f s xs r).1 h3⟩
  ·rintro ⟨c, r, h1, h2, h3⟩; exact ⟨c, r, h1, h2, (QdO E f s xs r).2 h3⟩
theorem Qjf {a b : Res} (h : a.p = b.p) : a = b := by cases a; cases b; cases h; rfl
theorem Qg7 {α β : Type} (E : Enc α) (f : β → α) (T : TypeId) (v : Value) (xs : List β) : Res.arr (Enc.iso E f) T v xs = Res.arr E T v (xs.map f) := by
 apply Qjf
 funext s w bs
 simp only [Res.arr, QdO, List.length_map]
 rfl
theorem QhC {n : Int} (h1 : -4000000000000 ≤ n) (h2 : n ≤ 4000000000000) : IntKind.i64.wrap n = n := by
 exact QeK (by omega) (by omega)
theorem Qk9 (x y : FR) : JO x.1 y.1 = some (Qb6 x.1 y.1) := by
 have hx := x.2; have hy := y.2
 unfold RF at hx hy
 unfold JO Qb6
 by_cases h : x.1.Var = y.1.Var
 ·simp only [h, decide_true, Bool.not_true, Bool.false_eq_true, if_false, ne_eq, not_true_eq_false]
  rw [QhC (by omega) (by omega)]
 ·simp only [h, decide_false, Bool.not_false, if_true, ne_eq, not_false_eq_true]
  rw [QhC (by omega) (by omega)]
theorem Qhl {w0 w : World} {s : PHeap} {H : List Res} {xs : List FR} {v : Value} (hlen : xs.length < 4611686018427387904) (hS : St w0 s (Res.arr encFR 51 v xs :: H) w) :
  Calls Tryz.prog 77 #[v, Value.func (.func 78) #[] #[]] w fun e w' => e = .returned (.tuple #[]) ∧ St w0 s (.arr encFR 51 v (xs.mergeSort fun x y => !(ltOf (fun a b : FR => Qb6 a.1 b.1)) y x) :: H) w' := by
 have key : ∀ x y : FR, ltOf (fun a b : FR => Qb6 a.1 b.1) x y = decide (Qb6 x.1 y.1 < 0) := fun _ _ => rfl
 exact Qjb (P := Tryz.prog) (ρ := QfE) (E := encFR) (enc := Qh9) (k := 2) QkU (fun _ => by exact Tryz.isAgg51 _) (fun _ => by exact Tryz.sizeOf51 _) (by decide) (fun _ => rfl)
   (fun x v hv => by simp [Qh9] at hv; rcases hv with rfl | rfl <;> rfl) Qi2 rfl (fun a b : FR => Qb6 a.1 b.1)
   ⟨fun x => by rw [key]; unfold Qb6; simp, fun x y z h1 h2 => by rw [key] at *; simp only [decide_eq_true_eq] at *; unfold Qb6 at *; split at h1 <;> split at h2 <;> split <;> omega, fun x y z h1 h2 => by rw [key] at *; simp only [decide_eq_false_iff_not] at *; unfold Qb6 at *; split at h1 <;> split at h2 <;> split <;> omega⟩
   78 (enters_of Tryz.func78 (by kernel_rfl) rfl)
   (fun W x y => (QaN (Qk9 x y) (QgB W)).mono fun e w' ⟨v, he, s', h1, h2, h3⟩ => ⟨v, he, s', h1, h2, h3⟩)
   (fun x y h1 h2 => by
    rw [key] at *
    simp only [decide_eq_false_iff_not] at *
    obtain ⟨⟨a, b⟩, hx⟩ := x
    obtain ⟨⟨c, d⟩, hy⟩ := y
    simp only [Qb6] at h1 h2
    have e1 : a = c := by split at h1 <;> split at h2 <;> omega
    have e2 : b = d := by split at h1 <;> split at h2 <;> omega
    subst e1 e2
    rfl) hlen hS
theorem QcM {w0 w : World} {s : PHeap} {H : List Res} {xs : List Fact} {v : Value} {r : List Fact} (hm : Kf xs = some r) (hS : St w0 s (Res.arr encFact 51 v xs :: H) w) :
  Calls Tryz.prog 77 #[v, Value.func (.func 78) #[] #[]] w fun e w' => ∃ u, e = .returned u ∧ ((fun (l : List Fact) => ∃ (s' : PHeap), PHeap.le s s' ∧ St w0 s' (Res.arr encFact 51 v l :: H) w' ∧ u = Value.tuple #[]) r) := by
 unfold Kf at hm
 split at hm
 ·rename_i hlen
  obtain ⟨hlen, hR⟩ := hlen
  have hr := Zu hm
  subst hr
  have e1 : (xs.attachWith RF hR).map Subtype.val = xs := by simp
  have hS1 : St w0 s (Res.arr encFR 51 v (xs.attachWith RF hR) :: H) w := by
   rw [encFR, Qg7, e1]; exact hS
  refine (Qhl (by have := congrArg List.length e1; rw [List.length_map] at this; rw [this]; exact hlen) hS1).mono ?_
  rintro e w' ⟨rfl, hS'⟩
  rw [encFR, Qg7, List.map_mergeSort (f := Subtype.val) (r := fun x y => !(ltOf (fun a b : FR => Qb6 a.1 b.1)) y x) (s := fun x y => !decide (Qb6 y x < 0)) (fun a _ b _ => rfl), e1] at hS'
  exact ⟨_, Z, s, Zv _, hS', Z⟩
 ·cases hm
end Go.Pw
