/-
  The library's sort of events, as the walks call it.
-/
import Derived.Test.YthbgcahoknmmmaaGreatRz1
import Derived.Test.YthbgcahoknmmmaaGreatRzC
import Derived.Test.YthbgcahoknmmmaaGreatL13
set_option maxHeartbeats 4000000
set_option linter.unusedSimpArgs false
set_option linter.unusedVariables false
namespace Go.Pw
open Go.Proofs Go.Shelf Go.RowKit Go.Lib Go.Sort
def lay44_ren : Go.Shelf.Ren := ⟨fun | 6 => 44 | 15 => 76 | 14 => 75 | 28 => 93 | 29 => 94 | 20 => 85 | 21 => 86 | 22 => 87 | 23 => 88 | 24 => 89 | 25 => 90 | 26 => 91 | 27 => 92 | 46 => 108 | 47 => 109 | 48 => 110 | 49 => 111 | 50 => 112 | 57 => 118 | n => n, fun | 22 => 30 | 24 => 49 | 25 => 107 | 3 => 3 | 39 => 135 | 0 => 0 | 53 => 149 | 55 => 151 | 4 => 4 | 46 => 142 | 45 => 141 | 50 => 146 | 5 => 5 | 9 => 9 | 66 => 161 | 70 => 165 | 76 => 170 | 77 => 171 | n => n, fun | n => n⟩
theorem lay44 : Go.Proofs.SlLaysF0.n6 Tryz.prog lay44_ren := {
  mixed := by kernel_rfl,
  f6 := ⟨Tryz.f44.name, by decide, Tryz.func44.trans (congrArg some (by kernel_rfl))⟩,
  f14 := ⟨Tryz.f75.name, by decide, Tryz.func75.trans (congrArg some (by kernel_rfl))⟩,
  f15 := Tryz.func76.trans (congrArg some (by kernel_rfl)),
  f20 := ⟨Tryz.f85.name, by decide, Tryz.func85.trans (congrArg some (by kernel_rfl))⟩,
  f21 := ⟨Tryz.f86.name, by decide, Tryz.func86.trans (congrArg some (by kernel_rfl))⟩,
  f22 := ⟨Tryz.f87.name, by decide, Tryz.func87.trans (congrArg some (by kernel_rfl))⟩,
  f23 := ⟨Tryz.f88.name, by decide, Tryz.func88.trans (congrArg some (by kernel_rfl))⟩,
  f24 := ⟨Tryz.f89.name, by decide, Tryz.func89.trans (congrArg some (by kernel_rfl))⟩,
  f25 := ⟨Tryz.f90.name, by decide, Tryz.func90.trans (congrArg some (by kernel_rfl))⟩,
  f26 := ⟨Tryz.f91.name, by decide, Tryz.func91.trans (congrArg some (by kernel_rfl))⟩,
  f27 := ⟨Tryz.f92.name, by decide, Tryz.func92.trans (congrArg some (by kernel_rfl))⟩,
  f28 := Tryz.func93.trans (congrArg some (by kernel_rfl)),
  f29 := Tryz.func94.trans (congrArg some (by kernel_rfl)),
  f46 := ⟨Tryz.f108.name, by decide, Tryz.func108.trans (congrArg some (by kernel_rfl))⟩,
  f47 := Tryz.func109.trans (congrArg some (by kernel_rfl)),
  f48 := Tryz.func110.trans (congrArg some (by kernel_rfl)),
  f49 := ⟨Tryz.f111.name, by decide, Tryz.func111.trans (congrArg some (by kernel_rfl))⟩,
  f50 := ⟨Tryz.f112.name, by decide, Tryz.func112.trans (congrArg some (by kernel_rfl))⟩,
  f57 := ⟨Tryz.f118.name, by decide, Tryz.func118.trans (congrArg some (by kernel_rfl))⟩,
  t0 := Tryz.underlying0,
  a0 := Tryz.isAgg0,
  z0 := Tryz.sizeOf0,
  v0 := Tryz.zeroValue0,
  t3 := Tryz.underlying3,
  a3 := Tryz.isAgg3,
  z3 := Tryz.sizeOf3,
  v3 := Tryz.zeroValue3,
  t4 := Tryz.underlying4,
  a4 := Tryz.isAgg4,
  z4 := Tryz.sizeOf4,
  v4 := Tryz.zeroValue4,
  t5 := Tryz.underlying5,
  a5 := Tryz.isAgg5,
  z5 := Tryz.sizeOf5,
  v5 := Tryz.zeroValue5,
  t9 := Tryz.underlying9,
  a9 := Tryz.isAgg9,
  z9 := Tryz.sizeOf9,
  v9 := Tryz.zeroValue9,
  t22 := Tryz.underlying30,
  a22 := Tryz.isAgg30,
  z22 := Tryz.sizeOf30,
  v22 := Tryz.zeroValue30,
  t25 := Tryz.underlying107,
  a25 := Tryz.isAgg107,
  z25 := Tryz.sizeOf107,
  v25 := Tryz.zeroValue107,
  t39 := Tryz.underlying135,
  a39 := Tryz.isAgg135,
  z39 := Tryz.sizeOf135,
  v39 := Tryz.zeroValue135,
  t45 := Tryz.underlying141,
  a45 := Tryz.isAgg141,
  z45 := Tryz.sizeOf141,
  v45 := Tryz.zeroValue141,
  t46 := Tryz.underlying142,
  a46 := Tryz.isAgg142,
  z46 := Tryz.sizeOf142,
  v46 := Tryz.zeroValue142,
  t50 := Tryz.underlying146,
  a50 := Tryz.isAgg146,
  z50 := Tryz.sizeOf146,
  v50 := Tryz.zeroValue146,
  t53 := Tryz.underlying149,
  a53 := Tryz.isAgg149,
  z53 := Tryz.sizeOf149,
  v53 := Tryz.zeroValue149,
  t55 := Tryz.underlying151,
  a55 := Tryz.isAgg151,
  z55 := Tryz.sizeOf151,
  v55 := Tryz.zeroValue151,
  t66 := Tryz.underlying161,
  a66 := Tryz.isAgg161,
  z66 := Tryz.sizeOf161,
  v66 := Tryz.zeroValue161,
  t70 := Tryz.underlying165,
  a70 := Tryz.isAgg165,
  z70 := Tryz.sizeOf165,
  v70 := Tryz.zeroValue165,
  t76 := Tryz.underlying170,
  a76 := Tryz.isAgg170,
  z76 := Tryz.sizeOf170,
  v76 := Tryz.zeroValue170,
  t77 := Tryz.underlying171,
  a77 := Tryz.isAgg171,
  z77 := Tryz.sizeOf171,
  v77 := Tryz.zeroValue171 }
def encVn (x : simulate_Event) : List Value := [.int .i64 x.At, .int .i64 x.Launch, .bool x.End]
instance inhVn : Inhabited simulate_Event := ⟨⟨0, 0, false⟩⟩
theorem encVn_rep (s : PHeap) (cs : List Value) (x : simulate_Event) : encsimulate_Event.rep s cs x ↔ cs = encVn x := by
  simp only [encsimulate_Event, Enc.iso, Enc.pair, encInt, encBool, oneCell, encVn]
  constructor
  · rintro ⟨_, _, rfl, rfl, ⟨_, _, rfl, rfl, rfl⟩⟩; rfl
  · rintro rfl; exact ⟨[_], [_, _], rfl, rfl, ⟨[_], [_], rfl, rfl, rfl⟩⟩
theorem sortEvent_sim {w0 w : World} {s : PHeap} {H : List Res} {xs : List simulate_Event} {v : Value} {r : List simulate_Event} (hm : sortEvent_p xs = some r) (hS : St w0 s (Res.arr encsimulate_Event 49 v xs :: H) w) :
    Calls Tryz.prog 44 #[v, Value.func (.func 45) #[] #[]] w fun e w' => ∃ u, e = .returned u ∧ ((fun (l : List simulate_Event) => ∃ (s' : PHeap), PHeap.le s s' ∧ St w0 s' (Res.arr encsimulate_Event 49 v l :: H) w' ∧ u = Value.tuple #[]) r) := by
  unfold sortEvent_p at hm
  split at hm
  · rename_i hlen
    have hr := Zu hm
    subst hr
    have key : ∀ x y : simulate_Event, ltOf cmpV x y = decide (cmpV x y < 0) := fun _ _ => rfl
    have h := sort_arr (P := Tryz.prog) (ρ := lay44_ren) (E := encsimulate_Event) (enc := encVn) (k := 3) lay44 (fun _ => by exact Tryz.isAgg49 _) (fun _ => by exact Tryz.sizeOf49 _) (by decide) (fun _ => rfl)
      (fun x v hv => by simp [encVn] at hv; rcases hv with rfl | rfl | rfl <;> rfl) encVn_rep rfl cmpV
      ⟨fun x => by rw [key]; simp [cmpV_neg], fun x y z h1 h2 => by rw [key] at *; simp only [decide_eq_true_eq, cmpV_neg] at *; omega, fun x y z h1 h2 => by rw [key] at *; simp only [decide_eq_false_iff_not, cmpV_neg] at *; omega⟩
      45 (enters_of Tryz.func45 (by kernel_rfl) rfl)
      (fun W x y => (simulate_run_events_c1_sim (evc_p x y) (St.start W)).mono fun e w' ⟨v, he, s', h1, h2, h3⟩ => ⟨v, he, s', h1, h2, h3⟩)
      (fun x y h1 h2 => by
        rw [key] at *
        simp only [decide_eq_false_iff_not, cmpV_neg] at *
        have e1 : x.At = y.At := by omega
        have e2 : rkE x = rkE y := by omega
        have e3 : x.Launch = y.Launch := by omega
        have e4 := rkE_eq e2
        obtain ⟨a, b, c⟩ := x
        obtain ⟨d, e, f⟩ := y
        simp only at e1 e3 e4
        subst e1 e3 e4
        rfl) hlen hS
    refine h.mono ?_
    rintro e w' ⟨rfl, hS'⟩
    exact ⟨_, rfl, s, Zv _, hS', rfl⟩
  · cases hm
end Go.Pw
