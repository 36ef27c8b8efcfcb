/-
  The library's sort of pairs, as the walks call it.
-/
import Derived.Test.YtagooehmocpcjaaDoorEx0
import Derived.Test.YtagooehmocpcjaaDoorExC
import Derived.Test.YtagooehmocpcjaaDoorL13
set_option maxRecDepth 100000
set_option maxHeartbeats 4000000
set_option linter.unusedSimpArgs false
set_option linter.unusedVariables false
namespace Go.Pw
open Go.Proofs Go.Shelf Go.RowKit Go.Lib Go.Sort
def lay56_ren : Go.Shelf.Ren := ⟨fun | 6 => 56 | 15 => 67 | 14 => 68 | 28 => 80 | 29 => 81 | 20 => 82 | 21 => 83 | 22 => 84 | 23 => 85 | 24 => 86 | 25 => 87 | 26 => 88 | 27 => 89 | 46 => 99 | 47 => 95 | 48 => 96 | 49 => 100 | 50 => 101 | 57 => 107 | n => n, fun | 22 => 91 | 24 => 92 | 25 => 96 | 3 => 3 | 39 => 106 | 0 => 0 | 53 => 120 | 55 => 122 | 4 => 4 | 46 => 114 | 45 => 113 | 50 => 79 | 5 => 5 | 9 => 9 | 66 => 132 | 70 => 136 | 76 => 144 | 77 => 60 | n => n, fun | n => n⟩
theorem lay56 : Go.Proofs.SlLaysF0.n6 Tryd.prog lay56_ren := {
  mixed := by kernel_rfl,
  f6 := ⟨Tryd.f56.name, by decide, Tryd.func56.trans (congrArg some (by kernel_rfl))⟩,
  f14 := ⟨Tryd.f68.name, by decide, Tryd.func68.trans (congrArg some (by kernel_rfl))⟩,
  f15 := Tryd.func67.trans (congrArg some (by kernel_rfl)),
  f20 := ⟨Tryd.f82.name, by decide, Tryd.func82.trans (congrArg some (by kernel_rfl))⟩,
  f21 := ⟨Tryd.f83.name, by decide, Tryd.func83.trans (congrArg some (by kernel_rfl))⟩,
  f22 := ⟨Tryd.f84.name, by decide, Tryd.func84.trans (congrArg some (by kernel_rfl))⟩,
  f23 := ⟨Tryd.f85.name, by decide, Tryd.func85.trans (congrArg some (by kernel_rfl))⟩,
  f24 := ⟨Tryd.f86.name, by decide, Tryd.func86.trans (congrArg some (by kernel_rfl))⟩,
  f25 := ⟨Tryd.f87.name, by decide, Tryd.func87.trans (congrArg some (by kernel_rfl))⟩,
  f26 := ⟨Tryd.f88.name, by decide, Tryd.func88.trans (congrArg some (by kernel_rfl))⟩,
  f27 := ⟨Tryd.f89.name, by decide, Tryd.func89.trans (congrArg some (by kernel_rfl))⟩,
  f28 := Tryd.func80.trans (congrArg some (by kernel_rfl)),
  f29 := Tryd.func81.trans (congrArg some (by kernel_rfl)),
  f46 := ⟨Tryd.f99.name, by decide, Tryd.func99.trans (congrArg some (by kernel_rfl))⟩,
  f47 := Tryd.func95.trans (congrArg some (by kernel_rfl)),
  f48 := Tryd.func96.trans (congrArg some (by kernel_rfl)),
  f49 := ⟨Tryd.f100.name, by decide, Tryd.func100.trans (congrArg some (by kernel_rfl))⟩,
  f50 := ⟨Tryd.f101.name, by decide, Tryd.func101.trans (congrArg some (by kernel_rfl))⟩,
  f57 := ⟨Tryd.f107.name, by decide, Tryd.func107.trans (congrArg some (by kernel_rfl))⟩,
  t0 := Tryd.underlying0,
  a0 := Tryd.isAgg0,
  z0 := Tryd.sizeOf0,
  v0 := Tryd.zeroValue0,
  t3 := Tryd.underlying3,
  a3 := Tryd.isAgg3,
  z3 := Tryd.sizeOf3,
  v3 := Tryd.zeroValue3,
  t4 := Tryd.underlying4,
  a4 := Tryd.isAgg4,
  z4 := Tryd.sizeOf4,
  v4 := Tryd.zeroValue4,
  t5 := Tryd.underlying5,
  a5 := Tryd.isAgg5,
  z5 := Tryd.sizeOf5,
  v5 := Tryd.zeroValue5,
  t9 := Tryd.underlying9,
  a9 := Tryd.isAgg9,
  z9 := Tryd.sizeOf9,
  v9 := Tryd.zeroValue9,
  t22 := Tryd.underlying91,
  a22 := Tryd.isAgg91,
  z22 := Tryd.sizeOf91,
  v22 := Tryd.zeroValue91,
  t25 := Tryd.underlying96,
  a25 := Tryd.isAgg96,
  z25 := Tryd.sizeOf96,
  v25 := Tryd.zeroValue96,
  t39 := Tryd.underlying106,
  a39 := Tryd.isAgg106,
  z39 := Tryd.sizeOf106,
  v39 := Tryd.zeroValue106,
  t45 := Tryd.underlying113,
  a45 := Tryd.isAgg113,
  z45 := Tryd.sizeOf113,
  v45 := Tryd.zeroValue113,
  t46 := Tryd.underlying114,
  a46 := Tryd.isAgg114,
  z46 := Tryd.sizeOf114,
  v46 := Tryd.zeroValue114,
  t50 := Tryd.underlying79,
  a50 := Tryd.isAgg79,
  z50 := Tryd.sizeOf79,
  v50 := Tryd.zeroValue79,
  t53 := Tryd.underlying120,
  a53 := Tryd.isAgg120,
  z53 := Tryd.sizeOf120,
  v53 := Tryd.zeroValue120,
  t55 := Tryd.underlying122,
  a55 := Tryd.isAgg122,
  z55 := Tryd.sizeOf122,
  v55 := Tryd.zeroValue122,
  t66 := Tryd.underlying132,
  a66 := Tryd.isAgg132,
  z66 := Tryd.sizeOf132,
  v66 := Tryd.zeroValue132,
  t70 := Tryd.underlying136,
  a70 := Tryd.isAgg136,
  z70 := Tryd.sizeOf136,
  v70 := Tryd.zeroValue136,
  t76 := Tryd.underlying144,
  a76 := Tryd.isAgg144,
  z76 := Tryd.sizeOf144,
  v76 := Tryd.zeroValue144,
  t77 := Tryd.underlying60,
  a77 := Tryd.isAgg60,
  z77 := Tryd.sizeOf60,
  v77 := Tryd.zeroValue60 }
def encPr (x : Arr2_int) : List Value := [.int .i64 x.a0, .int .i64 x.a1]
instance : Inhabited Arr2_int := ⟨⟨0, 0⟩⟩
theorem encPr_rep (s : PHeap) (cs : List Value) (x : Arr2_int) : encArr2_int.rep s cs x ↔ cs = encPr x := by
  simp only [encArr2_int, Enc.iso, Enc.pair, encInt, oneCell, encPr]
  constructor
  · rintro ⟨_, _, rfl, rfl, rfl⟩; rfl
  · rintro rfl; exact ⟨[_], [_], rfl, rfl, rfl⟩
theorem sortPairs_sim {w0 w : World} {s : PHeap} {H : List Res} {xs : List Arr2_int} {v : Value} {r : List Arr2_int} (hm : sortPairs_p xs = some r) (hS : St w0 s (Res.arr encArr2_int 92 v xs :: H) w) :
    Calls Tryd.prog 56 #[v, Value.func (.func 57) #[] #[]] w fun e w' => ∃ u, e = .returned u ∧ ((fun (l : List Arr2_int) => ∃ (s' : PHeap), PHeap.le s s' ∧ St w0 s' (Res.arr encArr2_int 92 v l :: H) w' ∧ u = Value.tuple #[]) r) := by
  unfold sortPairs_p at hm
  split at hm
  · rename_i hlen
    have hr := Option.some.inj hm
    subst hr
    have key : ∀ x y : Arr2_int, ltOf cmpP x y = decide (cmpP x y < 0) := fun _ _ => rfl
    have h := sort_arr (P := Tryd.prog) (ρ := lay56_ren) (E := encArr2_int) (enc := encPr) (k := 2) lay56 (fun _ => by exact Tryd.isAgg92 _) (fun _ => by exact Tryd.sizeOf92 _) (by decide) (fun _ => rfl)
      (fun x v hv => by simp [encPr] at hv; rcases hv with rfl | rfl <;> rfl) encPr_rep rfl cmpP
      ⟨fun x => by rw [key]; simp [cmpP_neg], fun x y z h1 h2 => by rw [key] at *; simp only [decide_eq_true_eq, cmpP_neg] at *; omega, fun x y z h1 h2 => by rw [key] at *; simp only [decide_eq_false_iff_not, cmpP_neg] at *; omega⟩
      57 (enters_of Tryd.func57 (by kernel_rfl) rfl)
      (fun W x y => (shrink_refine_c1_sim (pair_cmp x y) (St.start W)).mono fun e w' ⟨v, he, s', h1, h2, h3⟩ => ⟨v, he, s', h1, h2, h3⟩)
      (fun x y h1 h2 => by
        rw [key] at *
        simp only [decide_eq_false_iff_not, cmpP_neg] at *
        obtain ⟨a, b⟩ := x
        obtain ⟨d, e⟩ := y
        simp only [Arr2_int.mk.injEq] at *
        omega) hlen hS
    refine h.mono ?_
    rintro e w' ⟨rfl, hS'⟩
    exact ⟨_, rfl, s, PHeap.le_refl _, hS', rfl⟩
  · cases hm
end Go.Pw
