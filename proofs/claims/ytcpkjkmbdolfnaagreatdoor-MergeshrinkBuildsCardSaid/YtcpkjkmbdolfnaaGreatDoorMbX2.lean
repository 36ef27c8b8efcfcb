/- -/
import Derived.Test.YtcpkjkmbdolfnaaGreatDoorMb7
import Derived.Test.YtcpkjkmbdolfnaaGreatDoorMbC
import Derived.Test.YtcpkjkmbdolfnaaGreatDoorMsA
import Derived.Test.YtcpkjkmbdolfnaaGreatDoorMbX
set_option maxRecDepth 100000
set_option maxHeartbeats 4000000
set_option linter.unusedSimpArgs false
set_option linter.unusedVariables false
namespace Go.Pw
open Go.Proofs Go.Shelf Go.RowKit Go.Lib Go.Sort
theorem Qit {w0 w : World} {s : PHeap} {H : List Res} {xs : List Edge} {v : Value} {r : List Edge} (hm : QcD xs = some r) (hS : St w0 s (Res.arr encEdge 73 v xs :: H) w) :
  Calls Tryz.prog 74 #[v, Value.func (.func 75) #[] #[]] w fun e w' => ∃ u, e = .returned u ∧ ((fun (l : List Edge) => ∃ (s' : PHeap), PHeap.le s s' ∧ St w0 s' (Res.arr encEdge 73 v l :: H) w' ∧ u = Value.tuple #[]) r) := by
 unfold QcD Ku at hm
 split at hm
 ·rename_i hlen
  have hr := Zu hm
  subst hr
  have key : ∀ x y : Edge, ltOf Qbv x y = decide (Qbv x y < 0) := fun _ _ => rfl
  have h := Qgp (P := Tryz.prog) (ρ := Qfj) (E := encEdge) (enc := QkS) (k := 3) Qn5 (fun _ => by exact Tryz.isAgg73 _) (fun _ => by exact Tryz.sizeOf73 _) (by decide) (fun _ => rfl)
   (fun x v hv => by simp [QkS] at hv; rcases hv with rfl | rfl | rfl <;> rfl) Qjj rfl Qbv
   ⟨fun x => by rw [key]; simp [Qa2], fun x y z h1 h2 => by rw [key] at *; simp only [decide_eq_true_eq, Qa2] at *; omega, fun x y z h1 h2 => by rw [key] at *; simp only [decide_eq_false_iff_not, Qa2] at *; omega⟩
   75 (enters_of Tryz.func75 (by kernel_rfl) rfl)
   (fun W x y => (Qb1 (Qfn x y) (QeD W)).mono fun e w' ⟨v, he, s', h1, h2, h3⟩ => ⟨v, he, s', h1, h2, h3⟩)
   (fun x y h1 h2 => by
    rw [key] at *
    simp only [decide_eq_false_iff_not, Qa2] at *
    obtain ⟨a, b, c⟩ := x
    obtain ⟨d, e, f⟩ := y
    simp only [Edge.mk.injEq] at *
    omega) hlen hS
  refine h.mono ?_
  rintro e w' ⟨rfl, hS'⟩
  exact ⟨_, Z, s, Zv _, hS', Z⟩
 ·cases hm
end Go.Pw
