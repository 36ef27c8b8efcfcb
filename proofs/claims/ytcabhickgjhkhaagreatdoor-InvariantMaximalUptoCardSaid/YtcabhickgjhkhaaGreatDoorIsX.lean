/-
  The library's sort of lists of integers, as the walks call it.
-/
import Derived.Test.YtcabhickgjhkhaaGreatDoorIs5
import Derived.Test.YtcabhickgjhkhaaGreatDoorIsCl
import Derived.Test.YtcabhickgjhkhaaGreatDoorL50
set_option maxHeartbeats 4000000
set_option linter.unusedSimpArgs false
set_option linter.unusedVariables false
namespace Go.Pw
open Go.Proofs Go.Shelf Go.RowKit Go.Lib Go.Sort
def lay52_ren : Go.Shelf.Ren := ⟨fun | 6 => 52 | 15 => 79 | 14 => 80 | 28 => 99 | 29 => 100 | 20 => 101 | 21 => 102 | 22 => 103 | 23 => 104 | 24 => 105 | 25 => 106 | 26 => 107 | 27 => 108 | 46 => 117 | 47 => 113 | 48 => 114 | 49 => 118 | 50 => 119 | 57 => 127 | n => n, fun | 22 => 36 | 24 => 24 | 25 => 96 | 3 => 3 | 39 => 118 | 0 => 0 | 53 => 153 | 55 => 155 | 4 => 4 | 46 => 147 | 45 => 146 | 50 => 42 | 5 => 5 | 9 => 9 | 66 => 164 | 70 => 168 | 76 => 179 | 77 => 180 | n => n, fun | n => n⟩
theorem lay52 : Go.Proofs.SlLaysF.n6 Tryz.prog lay52_ren := {
  mixed := by kernel_rfl,
  f6 := ⟨Tryz.f52.name, by decide, Tryz.func52.trans (congrArg some (by kernel_rfl))⟩,
  f14 := ⟨Tryz.f80.name, by decide, Tryz.func80.trans (congrArg some (by kernel_rfl))⟩,
  f15 := Tryz.func79.trans (congrArg some (by kernel_rfl)),
  f20 := ⟨Tryz.f101.name, by decide, Tryz.func101.trans (congrArg some (by kernel_rfl))⟩,
  f21 := ⟨Tryz.f102.name, by decide, Tryz.func102.trans (congrArg some (by kernel_rfl))⟩,
  f22 := ⟨Tryz.f103.name, by decide, Tryz.func103.trans (congrArg some (by kernel_rfl))⟩,
  f23 := ⟨Tryz.f104.name, by decide, Tryz.func104.trans (congrArg some (by kernel_rfl))⟩,
  f24 := ⟨Tryz.f105.name, by decide, Tryz.func105.trans (congrArg some (by kernel_rfl))⟩,
  f25 := ⟨Tryz.f106.name, by decide, Tryz.func106.trans (congrArg some (by kernel_rfl))⟩,
  f26 := ⟨Tryz.f107.name, by decide, Tryz.func107.trans (congrArg some (by kernel_rfl))⟩,
  f27 := ⟨Tryz.f108.name, by decide, Tryz.func108.trans (congrArg some (by kernel_rfl))⟩,
  f28 := Tryz.func99.trans (congrArg some (by kernel_rfl)),
  f29 := Tryz.func100.trans (congrArg some (by kernel_rfl)),
  f46 := ⟨Tryz.f117.name, by decide, Tryz.func117.trans (congrArg some (by kernel_rfl))⟩,
  f47 := Tryz.func113.trans (congrArg some (by kernel_rfl)),
  f48 := Tryz.func114.trans (congrArg some (by kernel_rfl)),
  f49 := ⟨Tryz.f118.name, by decide, Tryz.func118.trans (congrArg some (by kernel_rfl))⟩,
  f50 := ⟨Tryz.f119.name, by decide, Tryz.func119.trans (congrArg some (by kernel_rfl))⟩,
  f57 := ⟨Tryz.f127.name, by decide, Tryz.func127.trans (congrArg some (by kernel_rfl))⟩,
  t0 := Tryz.underlying0,
  a0 := Tryz.isAgg0,
  z0 := Tryz.sizeOf0,
  v0 := Tryz.zeroValue0,
  t3 := Tryz.underlying3,
  a3 := Tryz.isAgg3,
  z3 := Tryz.sizeOf3,
  v3 := Tryz.zeroValue3,
  t4 := Tryz.underlying4,
  a4 := Tryz.isAgg4,
  z4 := Tryz.sizeOf4,
  v4 := Tryz.zeroValue4,
  t5 := Tryz.underlying5,
  a5 := Tryz.isAgg5,
  z5 := Tryz.sizeOf5,
  v5 := Tryz.zeroValue5,
  t9 := Tryz.underlying9,
  a9 := Tryz.isAgg9,
  z9 := Tryz.sizeOf9,
  v9 := Tryz.zeroValue9,
  t22 := Tryz.underlying36,
  a22 := Tryz.isAgg36,
  z22 := Tryz.sizeOf36,
  v22 := Tryz.zeroValue36,
  a24 := Tryz.isAgg24,
  z24 := Tryz.sizeOf24,
  t25 := Tryz.underlying96,
  a25 := Tryz.isAgg96,
  z25 := Tryz.sizeOf96,
  v25 := Tryz.zeroValue96,
  t39 := Tryz.underlying118,
  a39 := Tryz.isAgg118,
  z39 := Tryz.sizeOf118,
  v39 := Tryz.zeroValue118,
  t45 := Tryz.underlying146,
  a45 := Tryz.isAgg146,
  z45 := Tryz.sizeOf146,
  v45 := Tryz.zeroValue146,
  t46 := Tryz.underlying147,
  a46 := Tryz.isAgg147,
  z46 := Tryz.sizeOf147,
  v46 := Tryz.zeroValue147,
  t50 := Tryz.underlying42,
  a50 := Tryz.isAgg42,
  z50 := Tryz.sizeOf42,
  v50 := Tryz.zeroValue42,
  t53 := Tryz.underlying153,
  a53 := Tryz.isAgg153,
  z53 := Tryz.sizeOf153,
  v53 := Tryz.zeroValue153,
  t55 := Tryz.underlying155,
  a55 := Tryz.isAgg155,
  z55 := Tryz.sizeOf155,
  v55 := Tryz.zeroValue155,
  t66 := Tryz.underlying164,
  a66 := Tryz.isAgg164,
  z66 := Tryz.sizeOf164,
  v66 := Tryz.zeroValue164,
  t70 := Tryz.underlying168,
  a70 := Tryz.isAgg168,
  z70 := Tryz.sizeOf168,
  v70 := Tryz.zeroValue168,
  t76 := Tryz.underlying179,
  a76 := Tryz.isAgg179,
  z76 := Tryz.sizeOf179,
  v76 := Tryz.zeroValue179,
  t77 := Tryz.underlying180,
  a77 := Tryz.isAgg180,
  z77 := Tryz.sizeOf180,
  v77 := Tryz.zeroValue180 }
theorem sortLists_sim {w0 w : World} {s : PHeap} {H : List Res} {xs : List (List Int)} {v : Value} {r : List (List Int)} (hm : sortLists_p xs = some r) (hS : St w0 s (Res.arr (encSlice (encInt .i64)) 24 v xs :: H) w) :
    Calls Tryz.prog 52 #[v, Value.func (.func 53) #[] #[]] w fun e w' => ∃ u, e = .returned u ∧ ((fun (l : List (List Int)) => ∃ (s' : PHeap), PHeap.le s s' ∧ St w0 s' (Res.arr (encSlice (encInt .i64)) 24 v l :: H) w' ∧ u = Value.tuple #[]) r) := by
  unfold sortLists_p at hm
  split at hm
  · rename_i hlen
    have hr := Zu hm
    subst hr
    have key : ∀ x y : List Int, ltOf cmpL x y = decide (cmpL x y < 0) := fun _ _ => rfl
    refine (sortL_arr (P := Tryz.prog) (ρ := lay52_ren) lay52 cmpL
      ⟨fun x => by rw [key, cmpL_self]; rfl, fun x y z h1 h2 => by rw [key] at *; simp only [decide_eq_true_eq] at *; exact cmpL_trans _ _ _ h1 h2, fun x y z h1 h2 => by rw [key] at *; simp only [decide_eq_false_iff_not] at *; exact cmpL_ntrans _ _ _ h1 h2⟩
      (fun x y h1 h2 => by rw [key] at *; simp only [decide_eq_false_iff_not] at *; exact cmpL_anti _ _ h1 h2)
      53 (enters_of Tryz.func53 (by kernel_rfl) rfl)
      (fun W t hle u1 u2 x y h1 h2 => (slices_Compare_int_sim (cmpL_p x y) (St.start W) (h1.mono hle) (h2.mono hle)).mono fun e w' ⟨v, he, s', l, hS', hv⟩ => ⟨by rw [he, hv], grow_of_St l hS'⟩) hlen hS).mono ?_
    rintro e w' ⟨rfl, hS'⟩
    exact ⟨_, rfl, s, Zv _, hS', rfl⟩
  · cases hm
end Go.Pw
