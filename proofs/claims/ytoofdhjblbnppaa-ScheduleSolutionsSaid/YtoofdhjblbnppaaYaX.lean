/-
  The library's sort of launches, as the walks call it.
-/
import Derived.Test.YtoofdhjblbnppaaYa1
import Derived.Test.YtoofdhjblbnppaaYaC
import Derived.Test.YtoofdhjblbnppaaL13
set_option maxHeartbeats 4000000
set_option linter.unusedSimpArgs false
set_option linter.unusedVariables false
namespace Go.Pw
open Go.Proofs Go.Shelf Go.RowKit Go.Lib Go.Sort
def lay44_ren : Go.Shelf.Ren := ⟨fun | 6 => 44 | 15 => 65 | 14 => 67 | 28 => 82 | 29 => 83 | 20 => 87 | 21 => 88 | 22 => 89 | 23 => 90 | 24 => 91 | 25 => 92 | 26 => 93 | 27 => 94 | 46 => 103 | 47 => 98 | 48 => 99 | 49 => 104 | 50 => 105 | 57 => 107 | n => n, fun | 22 => 27 | 24 => 39 | 25 => 104 | 3 => 3 | 39 => 121 | 0 => 0 | 53 => 141 | 55 => 143 | 4 => 4 | 46 => 133 | 45 => 132 | 50 => 138 | 5 => 5 | 9 => 9 | 66 => 151 | 70 => 155 | 76 => 160 | 77 => 161 | n => n, fun | n => n⟩
theorem lay44 : Go.Proofs.SlLaysF0.n6 Try.prog lay44_ren := {
  mixed := by kernel_rfl,
  f6 := ⟨Try.f44.name, by decide, Try.func44.trans (congrArg some (by kernel_rfl))⟩,
  f14 := ⟨Try.f67.name, by decide, Try.func67.trans (congrArg some (by kernel_rfl))⟩,
  f15 := Try.func65.trans (congrArg some (by kernel_rfl)),
  f20 := ⟨Try.f87.name, by decide, Try.func87.trans (congrArg some (by kernel_rfl))⟩,
  f21 := ⟨Try.f88.name, by decide, Try.func88.trans (congrArg some (by kernel_rfl))⟩,
  f22 := ⟨Try.f89.name, by decide, Try.func89.trans (congrArg some (by kernel_rfl))⟩,
  f23 := ⟨Try.f90.name, by decide, Try.func90.trans (congrArg some (by kernel_rfl))⟩,
  f24 := ⟨Try.f91.name, by decide, Try.func91.trans (congrArg some (by kernel_rfl))⟩,
  f25 := ⟨Try.f92.name, by decide, Try.func92.trans (congrArg some (by kernel_rfl))⟩,
  f26 := ⟨Try.f93.name, by decide, Try.func93.trans (congrArg some (by kernel_rfl))⟩,
  f27 := ⟨Try.f94.name, by decide, Try.func94.trans (congrArg some (by kernel_rfl))⟩,
  f28 := Try.func82.trans (congrArg some (by kernel_rfl)),
  f29 := Try.func83.trans (congrArg some (by kernel_rfl)),
  f46 := ⟨Try.f103.name, by decide, Try.func103.trans (congrArg some (by kernel_rfl))⟩,
  f47 := Try.func98.trans (congrArg some (by kernel_rfl)),
  f48 := Try.func99.trans (congrArg some (by kernel_rfl)),
  f49 := ⟨Try.f104.name, by decide, Try.func104.trans (congrArg some (by kernel_rfl))⟩,
  f50 := ⟨Try.f105.name, by decide, Try.func105.trans (congrArg some (by kernel_rfl))⟩,
  f57 := ⟨Try.f107.name, by decide, Try.func107.trans (congrArg some (by kernel_rfl))⟩,
  t0 := Try.underlying0,
  a0 := Try.isAgg0,
  z0 := Try.sizeOf0,
  v0 := Try.zeroValue0,
  t3 := Try.underlying3,
  a3 := Try.isAgg3,
  z3 := Try.sizeOf3,
  v3 := Try.zeroValue3,
  t4 := Try.underlying4,
  a4 := Try.isAgg4,
  z4 := Try.sizeOf4,
  v4 := Try.zeroValue4,
  t5 := Try.underlying5,
  a5 := Try.isAgg5,
  z5 := Try.sizeOf5,
  v5 := Try.zeroValue5,
  t9 := Try.underlying9,
  a9 := Try.isAgg9,
  z9 := Try.sizeOf9,
  v9 := Try.zeroValue9,
  t22 := Try.underlying27,
  a22 := Try.isAgg27,
  z22 := Try.sizeOf27,
  v22 := Try.zeroValue27,
  t25 := Try.underlying104,
  a25 := Try.isAgg104,
  z25 := Try.sizeOf104,
  v25 := Try.zeroValue104,
  t39 := Try.underlying121,
  a39 := Try.isAgg121,
  z39 := Try.sizeOf121,
  v39 := Try.zeroValue121,
  t45 := Try.underlying132,
  a45 := Try.isAgg132,
  z45 := Try.sizeOf132,
  v45 := Try.zeroValue132,
  t46 := Try.underlying133,
  a46 := Try.isAgg133,
  z46 := Try.sizeOf133,
  v46 := Try.zeroValue133,
  t50 := Try.underlying138,
  a50 := Try.isAgg138,
  z50 := Try.sizeOf138,
  v50 := Try.zeroValue138,
  t53 := Try.underlying141,
  a53 := Try.isAgg141,
  z53 := Try.sizeOf141,
  v53 := Try.zeroValue141,
  t55 := Try.underlying143,
  a55 := Try.isAgg143,
  z55 := Try.sizeOf143,
  v55 := Try.zeroValue143,
  t66 := Try.underlying151,
  a66 := Try.isAgg151,
  z66 := Try.sizeOf151,
  v66 := Try.zeroValue151,
  t70 := Try.underlying155,
  a70 := Try.isAgg155,
  z70 := Try.sizeOf155,
  v70 := Try.zeroValue155,
  t76 := Try.underlying160,
  a76 := Try.isAgg160,
  z76 := Try.sizeOf160,
  v76 := Try.zeroValue160,
  t77 := Try.underlying161,
  a77 := Try.isAgg161,
  z77 := Try.sizeOf161,
  v77 := Try.zeroValue161 }
def encLn (x : Launch) : List Value := [.int .i64 x.At, .int .i64 x.Job]
instance inhLn : Inhabited Launch := ⟨⟨0, 0⟩⟩
theorem encLn_rep (s : PHeap) (cs : List Value) (x : Launch) : encLaunch.rep s cs x ↔ cs = encLn x := by
  simp only [encLaunch, Enc.iso, Enc.pair, encInt, oneCell, encLn]
  constructor
  · rintro ⟨_, _, rfl, rfl, rfl⟩; rfl
  · rintro rfl; exact ⟨[_], [_], rfl, rfl, rfl⟩
theorem sortLaunch_sim {w0 w : World} {s : PHeap} {H : List Res} {xs : List Launch} {v : Value} {r : List Launch} (hm : sortLaunch_p xs = some r) (hS : St w0 s (Res.arr encLaunch 39 v xs :: H) w) :
    Calls Try.prog 44 #[v, Value.func (.func 45) #[] #[]] w fun e w' => ∃ u, e = .returned u ∧ ((fun (l : List Launch) => ∃ (s' : PHeap), PHeap.le s s' ∧ St w0 s' (Res.arr encLaunch 39 v l :: H) w' ∧ u = Value.tuple #[]) r) := by
  unfold sortLaunch_p at hm
  split at hm
  · rename_i hlen
    have hr := Zu hm
    subst hr
    have key : ∀ x y : Launch, ltOf cmpL x y = decide (cmpL x y < 0) := fun _ _ => rfl
    have h := sort_arr (P := Try.prog) (ρ := lay44_ren) (E := encLaunch) (enc := encLn) (k := 2) lay44 (fun _ => by exact Try.isAgg39 _) (fun _ => by exact Try.sizeOf39 _) (by decide) (fun _ => rfl)
      (fun x v hv => by simp [encLn] at hv; rcases hv with rfl | rfl <;> rfl) encLn_rep rfl cmpL
      ⟨fun x => by rw [key]; simp [cmpL_neg], fun x y z h1 h2 => by rw [key] at *; simp only [decide_eq_true_eq, cmpL_neg] at *; omega, fun x y z h1 h2 => by rw [key] at *; simp only [decide_eq_false_iff_not, cmpL_neg] at *; omega⟩
      45 (enters_of Try.func45 (by kernel_rfl) rfl)
      (fun W x y => (schedule_read_c1_sim (readc_p x y) (St.start W)).mono fun e w' ⟨v, he, s', h1, h2, h3⟩ => ⟨v, he, s', h1, h2, h3⟩)
      (fun x y h1 h2 => by
        rw [key] at *
        simp only [decide_eq_false_iff_not, cmpL_neg] at *
        obtain ⟨a, b⟩ := x
        obtain ⟨c, d⟩ := y
        simp only [Launch.mk.injEq] at *
        omega) hlen hS
    refine h.mono ?_
    rintro e w' ⟨rfl, hS'⟩
    exact ⟨_, rfl, s, Zv _, hS', rfl⟩
  · cases hm
end Go.Pw
