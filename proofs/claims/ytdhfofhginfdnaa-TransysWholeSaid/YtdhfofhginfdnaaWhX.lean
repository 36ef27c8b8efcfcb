/-
  The library's sort of edges, as the walks call it.
-/
import Derived.Test.YtdhfofhginfdnaaWh0
import Derived.Test.YtdhfofhginfdnaaWhC
import Derived.Test.YtdhfofhginfdnaaL13
set_option maxHeartbeats 4000000
set_option linter.unusedSimpArgs false
set_option linter.unusedVariables false
namespace Go.Pw
open Go.Proofs Go.Shelf Go.RowKit Go.Lib Go.Sort
def lay38_ren : Go.Shelf.Ren := ⟨fun | 6 => 38 | 15 => 54 | 14 => 53 | 28 => 73 | 29 => 74 | 20 => 65 | 21 => 66 | 22 => 67 | 23 => 68 | 24 => 69 | 25 => 70 | 26 => 71 | 27 => 72 | 46 => 83 | 47 => 84 | 48 => 85 | 49 => 86 | 50 => 87 | 57 => 97 | n => n, fun | 22 => 23 | 24 => 66 | 25 => 68 | 3 => 3 | 39 => 96 | 0 => 0 | 53 => 119 | 55 => 121 | 4 => 4 | 46 => 113 | 45 => 112 | 50 => 73 | 5 => 5 | 9 => 9 | 66 => 129 | 70 => 133 | 76 => 142 | 77 => 143 | n => n, fun | n => n⟩
theorem lay38 : Go.Proofs.SlLaysF0.n6 Try.prog lay38_ren := {
  mixed := by kernel_rfl,
  f6 := ⟨Try.f38.name, by decide, Try.func38.trans (congrArg some (by kernel_rfl))⟩,
  f14 := ⟨Try.f53.name, by decide, Try.func53.trans (congrArg some (by kernel_rfl))⟩,
  f15 := Try.func54.trans (congrArg some (by kernel_rfl)),
  f20 := ⟨Try.f65.name, by decide, Try.func65.trans (congrArg some (by kernel_rfl))⟩,
  f21 := ⟨Try.f66.name, by decide, Try.func66.trans (congrArg some (by kernel_rfl))⟩,
  f22 := ⟨Try.f67.name, by decide, Try.func67.trans (congrArg some (by kernel_rfl))⟩,
  f23 := ⟨Try.f68.name, by decide, Try.func68.trans (congrArg some (by kernel_rfl))⟩,
  f24 := ⟨Try.f69.name, by decide, Try.func69.trans (congrArg some (by kernel_rfl))⟩,
  f25 := ⟨Try.f70.name, by decide, Try.func70.trans (congrArg some (by kernel_rfl))⟩,
  f26 := ⟨Try.f71.name, by decide, Try.func71.trans (congrArg some (by kernel_rfl))⟩,
  f27 := ⟨Try.f72.name, by decide, Try.func72.trans (congrArg some (by kernel_rfl))⟩,
  f28 := Try.func73.trans (congrArg some (by kernel_rfl)),
  f29 := Try.func74.trans (congrArg some (by kernel_rfl)),
  f46 := ⟨Try.f83.name, by decide, Try.func83.trans (congrArg some (by kernel_rfl))⟩,
  f47 := Try.func84.trans (congrArg some (by kernel_rfl)),
  f48 := Try.func85.trans (congrArg some (by kernel_rfl)),
  f49 := ⟨Try.f86.name, by decide, Try.func86.trans (congrArg some (by kernel_rfl))⟩,
  f50 := ⟨Try.f87.name, by decide, Try.func87.trans (congrArg some (by kernel_rfl))⟩,
  f57 := ⟨Try.f97.name, by decide, Try.func97.trans (congrArg some (by kernel_rfl))⟩,
  t0 := Try.underlying0,
  a0 := Try.isAgg0,
  z0 := Try.sizeOf0,
  v0 := Try.zeroValue0,
  t3 := Try.underlying3,
  a3 := Try.isAgg3,
  z3 := Try.sizeOf3,
  v3 := Try.zeroValue3,
  t4 := Try.underlying4,
  a4 := Try.isAgg4,
  z4 := Try.sizeOf4,
  v4 := Try.zeroValue4,
  t5 := Try.underlying5,
  a5 := Try.isAgg5,
  z5 := Try.sizeOf5,
  v5 := Try.zeroValue5,
  t9 := Try.underlying9,
  a9 := Try.isAgg9,
  z9 := Try.sizeOf9,
  v9 := Try.zeroValue9,
  t22 := Try.underlying23,
  a22 := Try.isAgg23,
  z22 := Try.sizeOf23,
  v22 := Try.zeroValue23,
  t25 := Try.underlying68,
  a25 := Try.isAgg68,
  z25 := Try.sizeOf68,
  v25 := Try.zeroValue68,
  t39 := Try.underlying96,
  a39 := Try.isAgg96,
  z39 := Try.sizeOf96,
  v39 := Try.zeroValue96,
  t45 := Try.underlying112,
  a45 := Try.isAgg112,
  z45 := Try.sizeOf112,
  v45 := Try.zeroValue112,
  t46 := Try.underlying113,
  a46 := Try.isAgg113,
  z46 := Try.sizeOf113,
  v46 := Try.zeroValue113,
  t50 := Try.underlying73,
  a50 := Try.isAgg73,
  z50 := Try.sizeOf73,
  v50 := Try.zeroValue73,
  t53 := Try.underlying119,
  a53 := Try.isAgg119,
  z53 := Try.sizeOf119,
  v53 := Try.zeroValue119,
  t55 := Try.underlying121,
  a55 := Try.isAgg121,
  z55 := Try.sizeOf121,
  v55 := Try.zeroValue121,
  t66 := Try.underlying129,
  a66 := Try.isAgg129,
  z66 := Try.sizeOf129,
  v66 := Try.zeroValue129,
  t70 := Try.underlying133,
  a70 := Try.isAgg133,
  z70 := Try.sizeOf133,
  v70 := Try.zeroValue133,
  t76 := Try.underlying142,
  a76 := Try.isAgg142,
  z76 := Try.sizeOf142,
  v76 := Try.zeroValue142,
  t77 := Try.underlying143,
  a77 := Try.isAgg143,
  z77 := Try.sizeOf143,
  v77 := Try.zeroValue143 }
def encE (x : Edge) : List Value := [.int .i64 x.From, .int .i64 x.Label, .int .i64 x.To]
instance : Inhabited Edge := ⟨⟨0, 0, 0⟩⟩
theorem encE_rep (s : PHeap) (cs : List Value) (x : Edge) : encEdge.rep s cs x ↔ cs = encE x := by
  simp only [encEdge, Enc.iso, Enc.pair, encInt, oneCell, encE]
  constructor
  · rintro ⟨_, _, rfl, rfl, ⟨_, _, rfl, rfl, rfl⟩⟩; rfl
  · rintro rfl; exact ⟨[_], [_, _], rfl, rfl, ⟨[_], [_], rfl, rfl, rfl⟩⟩
theorem sortEdges_sim {w0 w : World} {s : PHeap} {H : List Res} {xs : List Edge} {v : Value} {r : List Edge} (hm : sortEdges_p xs = some r) (hS : St w0 s (Res.arr encEdge 66 v xs :: H) w) :
    Calls Try.prog 38 #[v, Value.func (.func 39) #[] #[]] w fun e w' => ∃ u, e = .returned u ∧ ((fun (l : List Edge) => ∃ (s' : PHeap), PHeap.le s s' ∧ St w0 s' (Res.arr encEdge 66 v l :: H) w' ∧ u = Value.tuple #[]) r) := by
  unfold sortEdges_p at hm
  split at hm
  · rename_i hlen
    have hr := Zu hm
    subst hr
    have key : ∀ x y : Edge, ltOf cmpE x y = decide (cmpE x y < 0) := fun _ _ => rfl
    have h := sort_arr (P := Try.prog) (ρ := lay38_ren) (E := encEdge) (enc := encE) (k := 3) lay38 (fun _ => by exact Try.isAgg66 _) (fun _ => by exact Try.sizeOf66 _) (by decide) (fun _ => rfl)
      (fun x v hv => by simp [encE] at hv; rcases hv with rfl | rfl | rfl <;> rfl) encE_rep rfl cmpE
      ⟨fun x => by rw [key]; simp [cmpE_neg], fun x y z h1 h2 => by rw [key] at *; simp only [decide_eq_true_eq, cmpE_neg] at *; omega, fun x y z h1 h2 => by rw [key] at *; simp only [decide_eq_false_iff_not, cmpE_neg] at *; omega⟩
      39 (enters_of Try.func39 (by kernel_rfl) rfl)
      (fun W x y => (transys_compare_sim (compare_p x y) (St.start W)).mono fun e w' ⟨v, he, s', h1, h2, h3⟩ => ⟨v, he, s', h1, h2, h3⟩)
      (fun x y h1 h2 => by
        rw [key] at *
        simp only [decide_eq_false_iff_not, cmpE_neg] at *
        obtain ⟨a, b, c⟩ := x
        obtain ⟨d, e, f⟩ := y
        simp only [Edge.mk.injEq] at *
        omega) hlen hS
    refine h.mono ?_
    rintro e w' ⟨rfl, hS'⟩
    exact ⟨_, rfl, s, Zv _, hS', rfl⟩
  · cases hm
end Go.Pw
