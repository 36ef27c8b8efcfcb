/-
  The library's sort of launches, as the walks call it.
-/
import Derived.Test.YtoofdhjblbnppaaGreatYz1
import Derived.Test.YtoofdhjblbnppaaGreatYzC
import Derived.Test.YtoofdhjblbnppaaGreatL13
set_option maxHeartbeats 4000000
set_option linter.unusedSimpArgs false
set_option linter.unusedVariables false
namespace Go.Pw
open Go.Proofs Go.Shelf Go.RowKit Go.Lib Go.Sort
def lay56_ren : Go.Shelf.Ren := ⟨fun | 6 => 56 | 15 => 76 | 14 => 79 | 28 => 94 | 29 => 95 | 20 => 99 | 21 => 100 | 22 => 101 | 23 => 102 | 24 => 103 | 25 => 104 | 26 => 105 | 27 => 106 | 46 => 115 | 47 => 110 | 48 => 111 | 49 => 116 | 50 => 117 | 57 => 119 | n => n, fun | 22 => 27 | 24 => 56 | 25 => 116 | 3 => 3 | 39 => 129 | 0 => 0 | 53 => 147 | 55 => 149 | 4 => 4 | 46 => 139 | 45 => 138 | 50 => 144 | 5 => 5 | 9 => 9 | 66 => 157 | 70 => 161 | 76 => 166 | 77 => 167 | n => n, fun | n => n⟩
theorem lay56 : Go.Proofs.SlLaysF0.n6 Tryz.prog lay56_ren := {
  mixed := by kernel_rfl,
  f6 := ⟨Tryz.f56.name, by decide, Tryz.func56.trans (congrArg some (by kernel_rfl))⟩,
  f14 := ⟨Tryz.f79.name, by decide, Tryz.func79.trans (congrArg some (by kernel_rfl))⟩,
  f15 := Tryz.func76.trans (congrArg some (by kernel_rfl)),
  f20 := ⟨Tryz.f99.name, by decide, Tryz.func99.trans (congrArg some (by kernel_rfl))⟩,
  f21 := ⟨Tryz.f100.name, by decide, Tryz.func100.trans (congrArg some (by kernel_rfl))⟩,
  f22 := ⟨Tryz.f101.name, by decide, Tryz.func101.trans (congrArg some (by kernel_rfl))⟩,
  f23 := ⟨Tryz.f102.name, by decide, Tryz.func102.trans (congrArg some (by kernel_rfl))⟩,
  f24 := ⟨Tryz.f103.name, by decide, Tryz.func103.trans (congrArg some (by kernel_rfl))⟩,
  f25 := ⟨Tryz.f104.name, by decide, Tryz.func104.trans (congrArg some (by kernel_rfl))⟩,
  f26 := ⟨Tryz.f105.name, by decide, Tryz.func105.trans (congrArg some (by kernel_rfl))⟩,
  f27 := ⟨Tryz.f106.name, by decide, Tryz.func106.trans (congrArg some (by kernel_rfl))⟩,
  f28 := Tryz.func94.trans (congrArg some (by kernel_rfl)),
  f29 := Tryz.func95.trans (congrArg some (by kernel_rfl)),
  f46 := ⟨Tryz.f115.name, by decide, Tryz.func115.trans (congrArg some (by kernel_rfl))⟩,
  f47 := Tryz.func110.trans (congrArg some (by kernel_rfl)),
  f48 := Tryz.func111.trans (congrArg some (by kernel_rfl)),
  f49 := ⟨Tryz.f116.name, by decide, Tryz.func116.trans (congrArg some (by kernel_rfl))⟩,
  f50 := ⟨Tryz.f117.name, by decide, Tryz.func117.trans (congrArg some (by kernel_rfl))⟩,
  f57 := ⟨Tryz.f119.name, by decide, Tryz.func119.trans (congrArg some (by kernel_rfl))⟩,
  t0 := Tryz.underlying0,
  a0 := Tryz.isAgg0,
  z0 := Tryz.sizeOf0,
  v0 := Tryz.zeroValue0,
  t3 := Tryz.underlying3,
  a3 := Tryz.isAgg3,
  z3 := Tryz.sizeOf3,
  v3 := Tryz.zeroValue3,
  t4 := Tryz.underlying4,
  a4 := Tryz.isAgg4,
  z4 := Tryz.sizeOf4,
  v4 := Tryz.zeroValue4,
  t5 := Tryz.underlying5,
  a5 := Tryz.isAgg5,
  z5 := Tryz.sizeOf5,
  v5 := Tryz.zeroValue5,
  t9 := Tryz.underlying9,
  a9 := Tryz.isAgg9,
  z9 := Tryz.sizeOf9,
  v9 := Tryz.zeroValue9,
  t22 := Tryz.underlying27,
  a22 := Tryz.isAgg27,
  z22 := Tryz.sizeOf27,
  v22 := Tryz.zeroValue27,
  t25 := Tryz.underlying116,
  a25 := Tryz.isAgg116,
  z25 := Tryz.sizeOf116,
  v25 := Tryz.zeroValue116,
  t39 := Tryz.underlying129,
  a39 := Tryz.isAgg129,
  z39 := Tryz.sizeOf129,
  v39 := Tryz.zeroValue129,
  t45 := Tryz.underlying138,
  a45 := Tryz.isAgg138,
  z45 := Tryz.sizeOf138,
  v45 := Tryz.zeroValue138,
  t46 := Tryz.underlying139,
  a46 := Tryz.isAgg139,
  z46 := Tryz.sizeOf139,
  v46 := Tryz.zeroValue139,
  t50 := Tryz.underlying144,
  a50 := Tryz.isAgg144,
  z50 := Tryz.sizeOf144,
  v50 := Tryz.zeroValue144,
  t53 := Tryz.underlying147,
  a53 := Tryz.isAgg147,
  z53 := Tryz.sizeOf147,
  v53 := Tryz.zeroValue147,
  t55 := Tryz.underlying149,
  a55 := Tryz.isAgg149,
  z55 := Tryz.sizeOf149,
  v55 := Tryz.zeroValue149,
  t66 := Tryz.underlying157,
  a66 := Tryz.isAgg157,
  z66 := Tryz.sizeOf157,
  v66 := Tryz.zeroValue157,
  t70 := Tryz.underlying161,
  a70 := Tryz.isAgg161,
  z70 := Tryz.sizeOf161,
  v70 := Tryz.zeroValue161,
  t76 := Tryz.underlying166,
  a76 := Tryz.isAgg166,
  z76 := Tryz.sizeOf166,
  v76 := Tryz.zeroValue166,
  t77 := Tryz.underlying167,
  a77 := Tryz.isAgg167,
  z77 := Tryz.sizeOf167,
  v77 := Tryz.zeroValue167 }
def encLn (x : Launch) : List Value := [.int .i64 x.At, .int .i64 x.Job]
instance inhLn : Inhabited Launch := ⟨⟨0, 0⟩⟩
theorem encLn_rep (s : PHeap) (cs : List Value) (x : Launch) : encLaunch.rep s cs x ↔ cs = encLn x := by
  simp only [encLaunch, Enc.iso, Enc.pair, encInt, oneCell, encLn]
  constructor
  · rintro ⟨_, _, rfl, rfl, rfl⟩; rfl
  · rintro rfl; exact ⟨[_], [_], rfl, rfl, rfl⟩
theorem sortLaunch_sim {w0 w : World} {s : PHeap} {H : List Res} {xs : List Launch} {v : Value} {r : List Launch} (hm : sortLaunch_p xs = some r) (hS : St w0 s (Res.arr encLaunch 56 v xs :: H) w) :
    Calls Tryz.prog 56 #[v, Value.func (.func 57) #[] #[]] w fun e w' => ∃ u, e = .returned u ∧ ((fun (l : List Launch) => ∃ (s' : PHeap), PHeap.le s s' ∧ St w0 s' (Res.arr encLaunch 56 v l :: H) w' ∧ u = Value.tuple #[]) r) := by
  unfold sortLaunch_p at hm
  split at hm
  · rename_i hlen
    have hr := Zu hm
    subst hr
    have key : ∀ x y : Launch, ltOf cmpL x y = decide (cmpL x y < 0) := fun _ _ => rfl
    have h := sort_arr (P := Tryz.prog) (ρ := lay56_ren) (E := encLaunch) (enc := encLn) (k := 2) lay56 (fun _ => by exact Tryz.isAgg56 _) (fun _ => by exact Tryz.sizeOf56 _) (by decide) (fun _ => rfl)
      (fun x v hv => by simp [encLn] at hv; rcases hv with rfl | rfl <;> rfl) encLn_rep rfl cmpL
      ⟨fun x => by rw [key]; simp [cmpL_neg], fun x y z h1 h2 => by rw [key] at *; simp only [decide_eq_true_eq, cmpL_neg] at *; omega, fun x y z h1 h2 => by rw [key] at *; simp only [decide_eq_false_iff_not, cmpL_neg] at *; omega⟩
      57 (enters_of Tryz.func57 (by kernel_rfl) rfl)
      (fun W x y => (schedule_read_c1_sim (readc_p x y) (St.start W)).mono fun e w' ⟨v, he, s', h1, h2, h3⟩ => ⟨v, he, s', h1, h2, h3⟩)
      (fun x y h1 h2 => by
        rw [key] at *
        simp only [decide_eq_false_iff_not, cmpL_neg] at *
        obtain ⟨a, b⟩ := x
        obtain ⟨c, d⟩ := y
        simp only [Launch.mk.injEq] at *
        omega) hlen hS
    refine h.mono ?_
    rintro e w' ⟨rfl, hS'⟩
    exact ⟨_, rfl, s, Zv _, hS', rfl⟩
  · cases hm
end Go.Pw
