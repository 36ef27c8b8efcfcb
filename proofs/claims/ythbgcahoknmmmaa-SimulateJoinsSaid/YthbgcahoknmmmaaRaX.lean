/-
  The library's sort of events, as the walks call it.
-/
import Derived.Test.YthbgcahoknmmmaaRa1
import Derived.Test.YthbgcahoknmmmaaRaC
import Derived.Test.YthbgcahoknmmmaaL13
set_option maxHeartbeats 4000000
set_option linter.unusedSimpArgs false
set_option linter.unusedVariables false
namespace Go.Pw
open Go.Proofs Go.Shelf Go.RowKit Go.Lib Go.Sort
def lay39_ren : Go.Shelf.Ren := ⟨fun | 6 => 39 | 15 => 59 | 14 => 61 | 28 => 76 | 29 => 77 | 20 => 81 | 21 => 82 | 22 => 83 | 23 => 84 | 24 => 85 | 25 => 86 | 26 => 87 | 27 => 88 | 46 => 96 | 47 => 91 | 48 => 92 | 49 => 97 | 50 => 98 | 57 => 101 | n => n, fun | 22 => 34 | 24 => 50 | 25 => 97 | 3 => 3 | 39 => 114 | 0 => 0 | 53 => 130 | 55 => 132 | 4 => 4 | 46 => 122 | 45 => 121 | 50 => 127 | 5 => 5 | 9 => 9 | 66 => 141 | 70 => 145 | 76 => 150 | 77 => 151 | n => n, fun | n => n⟩
theorem lay39 : Go.Proofs.SlLaysF0.n6 Try.prog lay39_ren := {
  mixed := by kernel_rfl,
  f6 := ⟨Try.f39.name, by decide, Try.func39.trans (congrArg some (by kernel_rfl))⟩,
  f14 := ⟨Try.f61.name, by decide, Try.func61.trans (congrArg some (by kernel_rfl))⟩,
  f15 := Try.func59.trans (congrArg some (by kernel_rfl)),
  f20 := ⟨Try.f81.name, by decide, Try.func81.trans (congrArg some (by kernel_rfl))⟩,
  f21 := ⟨Try.f82.name, by decide, Try.func82.trans (congrArg some (by kernel_rfl))⟩,
  f22 := ⟨Try.f83.name, by decide, Try.func83.trans (congrArg some (by kernel_rfl))⟩,
  f23 := ⟨Try.f84.name, by decide, Try.func84.trans (congrArg some (by kernel_rfl))⟩,
  f24 := ⟨Try.f85.name, by decide, Try.func85.trans (congrArg some (by kernel_rfl))⟩,
  f25 := ⟨Try.f86.name, by decide, Try.func86.trans (congrArg some (by kernel_rfl))⟩,
  f26 := ⟨Try.f87.name, by decide, Try.func87.trans (congrArg some (by kernel_rfl))⟩,
  f27 := ⟨Try.f88.name, by decide, Try.func88.trans (congrArg some (by kernel_rfl))⟩,
  f28 := Try.func76.trans (congrArg some (by kernel_rfl)),
  f29 := Try.func77.trans (congrArg some (by kernel_rfl)),
  f46 := ⟨Try.f96.name, by decide, Try.func96.trans (congrArg some (by kernel_rfl))⟩,
  f47 := Try.func91.trans (congrArg some (by kernel_rfl)),
  f48 := Try.func92.trans (congrArg some (by kernel_rfl)),
  f49 := ⟨Try.f97.name, by decide, Try.func97.trans (congrArg some (by kernel_rfl))⟩,
  f50 := ⟨Try.f98.name, by decide, Try.func98.trans (congrArg some (by kernel_rfl))⟩,
  f57 := ⟨Try.f101.name, by decide, Try.func101.trans (congrArg some (by kernel_rfl))⟩,
  t0 := Try.underlying0,
  a0 := Try.isAgg0,
  z0 := Try.sizeOf0,
  v0 := Try.zeroValue0,
  t3 := Try.underlying3,
  a3 := Try.isAgg3,
  z3 := Try.sizeOf3,
  v3 := Try.zeroValue3,
  t4 := Try.underlying4,
  a4 := Try.isAgg4,
  z4 := Try.sizeOf4,
  v4 := Try.zeroValue4,
  t5 := Try.underlying5,
  a5 := Try.isAgg5,
  z5 := Try.sizeOf5,
  v5 := Try.zeroValue5,
  t9 := Try.underlying9,
  a9 := Try.isAgg9,
  z9 := Try.sizeOf9,
  v9 := Try.zeroValue9,
  t22 := Try.underlying34,
  a22 := Try.isAgg34,
  z22 := Try.sizeOf34,
  v22 := Try.zeroValue34,
  t25 := Try.underlying97,
  a25 := Try.isAgg97,
  z25 := Try.sizeOf97,
  v25 := Try.zeroValue97,
  t39 := Try.underlying114,
  a39 := Try.isAgg114,
  z39 := Try.sizeOf114,
  v39 := Try.zeroValue114,
  t45 := Try.underlying121,
  a45 := Try.isAgg121,
  z45 := Try.sizeOf121,
  v45 := Try.zeroValue121,
  t46 := Try.underlying122,
  a46 := Try.isAgg122,
  z46 := Try.sizeOf122,
  v46 := Try.zeroValue122,
  t50 := Try.underlying127,
  a50 := Try.isAgg127,
  z50 := Try.sizeOf127,
  v50 := Try.zeroValue127,
  t53 := Try.underlying130,
  a53 := Try.isAgg130,
  z53 := Try.sizeOf130,
  v53 := Try.zeroValue130,
  t55 := Try.underlying132,
  a55 := Try.isAgg132,
  z55 := Try.sizeOf132,
  v55 := Try.zeroValue132,
  t66 := Try.underlying141,
  a66 := Try.isAgg141,
  z66 := Try.sizeOf141,
  v66 := Try.zeroValue141,
  t70 := Try.underlying145,
  a70 := Try.isAgg145,
  z70 := Try.sizeOf145,
  v70 := Try.zeroValue145,
  t76 := Try.underlying150,
  a76 := Try.isAgg150,
  z76 := Try.sizeOf150,
  v76 := Try.zeroValue150,
  t77 := Try.underlying151,
  a77 := Try.isAgg151,
  z77 := Try.sizeOf151,
  v77 := Try.zeroValue151 }
def encVn (x : simulate_Event) : List Value := [.int .i64 x.At, .int .i64 x.Launch, .bool x.End]
instance inhVn : Inhabited simulate_Event := ⟨⟨0, 0, false⟩⟩
theorem encVn_rep (s : PHeap) (cs : List Value) (x : simulate_Event) : encsimulate_Event.rep s cs x ↔ cs = encVn x := by
  simp only [encsimulate_Event, Enc.iso, Enc.pair, encInt, encBool, oneCell, encVn]
  constructor
  · rintro ⟨_, _, rfl, rfl, ⟨_, _, rfl, rfl, rfl⟩⟩; rfl
  · rintro rfl; exact ⟨[_], [_, _], rfl, rfl, ⟨[_], [_], rfl, rfl, rfl⟩⟩
theorem sortEvent_sim {w0 w : World} {s : PHeap} {H : List Res} {xs : List simulate_Event} {v : Value} {r : List simulate_Event} (hm : sortEvent_p xs = some r) (hS : St w0 s (Res.arr encsimulate_Event 50 v xs :: H) w) :
    Calls Try.prog 39 #[v, Value.func (.func 40) #[] #[]] w fun e w' => ∃ u, e = .returned u ∧ ((fun (l : List simulate_Event) => ∃ (s' : PHeap), PHeap.le s s' ∧ St w0 s' (Res.arr encsimulate_Event 50 v l :: H) w' ∧ u = Value.tuple #[]) r) := by
  unfold sortEvent_p at hm
  split at hm
  · rename_i hlen
    have hr := Zu hm
    subst hr
    have key : ∀ x y : simulate_Event, ltOf cmpV x y = decide (cmpV x y < 0) := fun _ _ => rfl
    have h := sort_arr (P := Try.prog) (ρ := lay39_ren) (E := encsimulate_Event) (enc := encVn) (k := 3) lay39 (fun _ => by exact Try.isAgg50 _) (fun _ => by exact Try.sizeOf50 _) (by decide) (fun _ => rfl)
      (fun x v hv => by simp [encVn] at hv; rcases hv with rfl | rfl | rfl <;> rfl) encVn_rep rfl cmpV
      ⟨fun x => by rw [key]; simp [cmpV_neg], fun x y z h1 h2 => by rw [key] at *; simp only [decide_eq_true_eq, cmpV_neg] at *; omega, fun x y z h1 h2 => by rw [key] at *; simp only [decide_eq_false_iff_not, cmpV_neg] at *; omega⟩
      40 (enters_of Try.func40 (by kernel_rfl) rfl)
      (fun W x y => (simulate_run_events_c1_sim (evc_p x y) (St.start W)).mono fun e w' ⟨v, he, s', h1, h2, h3⟩ => ⟨v, he, s', h1, h2, h3⟩)
      (fun x y h1 h2 => by
        rw [key] at *
        simp only [decide_eq_false_iff_not, cmpV_neg] at *
        have e1 : x.At = y.At := by omega
        have e2 : rkE x = rkE y := by omega
        have e3 : x.Launch = y.Launch := by omega
        have e4 := rkE_eq e2
        obtain ⟨a, b, c⟩ := x
        obtain ⟨d, e, f⟩ := y
        simp only at e1 e3 e4
        subst e1 e3 e4
        rfl) hlen hS
    refine h.mono ?_
    rintro e w' ⟨rfl, hS'⟩
    exact ⟨_, rfl, s, Zv _, hS', rfl⟩
  · cases hm
end Go.Pw
