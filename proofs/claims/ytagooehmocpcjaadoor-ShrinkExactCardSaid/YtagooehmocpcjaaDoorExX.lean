/-
  The library's sort of edges, as the walks call it.
-/
import Derived.Test.YtagooehmocpcjaaDoorEx5
import Derived.Test.YtagooehmocpcjaaDoorExC
import Derived.Test.YtagooehmocpcjaaDoorL13
set_option maxRecDepth 100000
set_option maxHeartbeats 4000000
set_option linter.unusedSimpArgs false
set_option linter.unusedVariables false
namespace Go.Pw
open Go.Proofs Go.Shelf Go.RowKit Go.Lib Go.Sort
def lay54_ren : Go.Shelf.Ren := ⟨fun | 6 => 54 | 15 => 67 | 14 => 66 | 28 => 80 | 29 => 81 | 20 => 72 | 21 => 73 | 22 => 74 | 23 => 75 | 24 => 76 | 25 => 77 | 26 => 78 | 27 => 79 | 46 => 94 | 47 => 95 | 48 => 96 | 49 => 97 | 50 => 98 | 57 => 106 | n => n, fun | 22 => 23 | 24 => 53 | 25 => 77 | 3 => 3 | 39 => 106 | 0 => 0 | 53 => 120 | 55 => 122 | 4 => 4 | 46 => 114 | 45 => 113 | 50 => 79 | 5 => 5 | 9 => 9 | 66 => 132 | 70 => 136 | 76 => 144 | 77 => 60 | n => n, fun | n => n⟩
theorem lay54 : Go.Proofs.SlLaysF0.n6 Tryd.prog lay54_ren := {
  mixed := by kernel_rfl,
  f6 := ⟨Tryd.f54.name, by decide, Tryd.func54.trans (congrArg some (by kernel_rfl))⟩,
  f14 := ⟨Tryd.f66.name, by decide, Tryd.func66.trans (congrArg some (by kernel_rfl))⟩,
  f15 := Tryd.func67.trans (congrArg some (by kernel_rfl)),
  f20 := ⟨Tryd.f72.name, by decide, Tryd.func72.trans (congrArg some (by kernel_rfl))⟩,
  f21 := ⟨Tryd.f73.name, by decide, Tryd.func73.trans (congrArg some (by kernel_rfl))⟩,
  f22 := ⟨Tryd.f74.name, by decide, Tryd.func74.trans (congrArg some (by kernel_rfl))⟩,
  f23 := ⟨Tryd.f75.name, by decide, Tryd.func75.trans (congrArg some (by kernel_rfl))⟩,
  f24 := ⟨Tryd.f76.name, by decide, Tryd.func76.trans (congrArg some (by kernel_rfl))⟩,
  f25 := ⟨Tryd.f77.name, by decide, Tryd.func77.trans (congrArg some (by kernel_rfl))⟩,
  f26 := ⟨Tryd.f78.name, by decide, Tryd.func78.trans (congrArg some (by kernel_rfl))⟩,
  f27 := ⟨Tryd.f79.name, by decide, Tryd.func79.trans (congrArg some (by kernel_rfl))⟩,
  f28 := Tryd.func80.trans (congrArg some (by kernel_rfl)),
  f29 := Tryd.func81.trans (congrArg some (by kernel_rfl)),
  f46 := ⟨Tryd.f94.name, by decide, Tryd.func94.trans (congrArg some (by kernel_rfl))⟩,
  f47 := Tryd.func95.trans (congrArg some (by kernel_rfl)),
  f48 := Tryd.func96.trans (congrArg some (by kernel_rfl)),
  f49 := ⟨Tryd.f97.name, by decide, Tryd.func97.trans (congrArg some (by kernel_rfl))⟩,
  f50 := ⟨Tryd.f98.name, by decide, Tryd.func98.trans (congrArg some (by kernel_rfl))⟩,
  f57 := ⟨Tryd.f106.name, by decide, Tryd.func106.trans (congrArg some (by kernel_rfl))⟩,
  t0 := Tryd.underlying0,
  a0 := Tryd.isAgg0,
  z0 := Tryd.sizeOf0,
  v0 := Tryd.zeroValue0,
  t3 := Tryd.underlying3,
  a3 := Tryd.isAgg3,
  z3 := Tryd.sizeOf3,
  v3 := Tryd.zeroValue3,
  t4 := Tryd.underlying4,
  a4 := Tryd.isAgg4,
  z4 := Tryd.sizeOf4,
  v4 := Tryd.zeroValue4,
  t5 := Tryd.underlying5,
  a5 := Tryd.isAgg5,
  z5 := Tryd.sizeOf5,
  v5 := Tryd.zeroValue5,
  t9 := Tryd.underlying9,
  a9 := Tryd.isAgg9,
  z9 := Tryd.sizeOf9,
  v9 := Tryd.zeroValue9,
  t22 := Tryd.underlying23,
  a22 := Tryd.isAgg23,
  z22 := Tryd.sizeOf23,
  v22 := Tryd.zeroValue23,
  t25 := Tryd.underlying77,
  a25 := Tryd.isAgg77,
  z25 := Tryd.sizeOf77,
  v25 := Tryd.zeroValue77,
  t39 := Tryd.underlying106,
  a39 := Tryd.isAgg106,
  z39 := Tryd.sizeOf106,
  v39 := Tryd.zeroValue106,
  t45 := Tryd.underlying113,
  a45 := Tryd.isAgg113,
  z45 := Tryd.sizeOf113,
  v45 := Tryd.zeroValue113,
  t46 := Tryd.underlying114,
  a46 := Tryd.isAgg114,
  z46 := Tryd.sizeOf114,
  v46 := Tryd.zeroValue114,
  t50 := Tryd.underlying79,
  a50 := Tryd.isAgg79,
  z50 := Tryd.sizeOf79,
  v50 := Tryd.zeroValue79,
  t53 := Tryd.underlying120,
  a53 := Tryd.isAgg120,
  z53 := Tryd.sizeOf120,
  v53 := Tryd.zeroValue120,
  t55 := Tryd.underlying122,
  a55 := Tryd.isAgg122,
  z55 := Tryd.sizeOf122,
  v55 := Tryd.zeroValue122,
  t66 := Tryd.underlying132,
  a66 := Tryd.isAgg132,
  z66 := Tryd.sizeOf132,
  v66 := Tryd.zeroValue132,
  t70 := Tryd.underlying136,
  a70 := Tryd.isAgg136,
  z70 := Tryd.sizeOf136,
  v70 := Tryd.zeroValue136,
  t76 := Tryd.underlying144,
  a76 := Tryd.isAgg144,
  z76 := Tryd.sizeOf144,
  v76 := Tryd.zeroValue144,
  t77 := Tryd.underlying60,
  a77 := Tryd.isAgg60,
  z77 := Tryd.sizeOf60,
  v77 := Tryd.zeroValue60 }
def encE (x : Edge) : List Value := [.int .i64 x.From, .int .i64 x.Label, .int .i64 x.To]
instance : Inhabited Edge := ⟨⟨0, 0, 0⟩⟩
theorem encE_rep (s : PHeap) (cs : List Value) (x : Edge) : encEdge.rep s cs x ↔ cs = encE x := by
  simp only [encEdge, Enc.iso, Enc.pair, encInt, oneCell, encE]
  constructor
  · rintro ⟨_, _, rfl, rfl, ⟨_, _, rfl, rfl, rfl⟩⟩; rfl
  · rintro rfl; exact ⟨[_], [_, _], rfl, rfl, ⟨[_], [_], rfl, rfl, rfl⟩⟩
theorem sortEdges_sim {w0 w : World} {s : PHeap} {H : List Res} {xs : List Edge} {v : Value} {r : List Edge} (hm : sortEdges_p xs = some r) (hS : St w0 s (Res.arr encEdge 53 v xs :: H) w) :
    Calls Tryd.prog 54 #[v, Value.func (.func 63) #[] #[]] w fun e w' => ∃ u, e = .returned u ∧ ((fun (l : List Edge) => ∃ (s' : PHeap), PHeap.le s s' ∧ St w0 s' (Res.arr encEdge 53 v l :: H) w' ∧ u = Value.tuple #[]) r) := by
  unfold sortEdges_p at hm
  split at hm
  · rename_i hlen
    have hr := Option.some.inj hm
    subst hr
    have key : ∀ x y : Edge, ltOf cmpE x y = decide (cmpE x y < 0) := fun _ _ => rfl
    have h := sort_arr (P := Tryd.prog) (ρ := lay54_ren) (E := encEdge) (enc := encE) (k := 3) lay54 (fun _ => by exact Tryd.isAgg53 _) (fun _ => by exact Tryd.sizeOf53 _) (by decide) (fun _ => rfl)
      (fun x v hv => by simp [encE] at hv; rcases hv with rfl | rfl | rfl <;> rfl) encE_rep rfl cmpE
      ⟨fun x => by rw [key]; simp [cmpE_neg], fun x y z h1 h2 => by rw [key] at *; simp only [decide_eq_true_eq, cmpE_neg] at *; omega, fun x y z h1 h2 => by rw [key] at *; simp only [decide_eq_false_iff_not, cmpE_neg] at *; omega⟩
      63 (enters_of Tryd.func63 (by kernel_rfl) rfl)
      (fun W x y => (shrink_order_c1_sim (order_cmp x y) (St.start W)).mono fun e w' ⟨v, he, s', h1, h2, h3⟩ => ⟨v, he, s', h1, h2, h3⟩)
      (fun x y h1 h2 => by
        rw [key] at *
        simp only [decide_eq_false_iff_not, cmpE_neg] at *
        obtain ⟨a, b, c⟩ := x
        obtain ⟨d, e, f⟩ := y
        simp only [Edge.mk.injEq] at *
        omega) hlen hS
    refine h.mono ?_
    rintro e w' ⟨rfl, hS'⟩
    exact ⟨_, rfl, s, PHeap.le_refl _, hS', rfl⟩
  · cases hm
end Go.Pw
