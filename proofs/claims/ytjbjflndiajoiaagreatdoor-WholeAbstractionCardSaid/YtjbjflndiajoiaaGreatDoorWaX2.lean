/- -/
import Derived.Test.YtjbjflndiajoiaaGreatDoorWa7
import Derived.Test.YtjbjflndiajoiaaGreatDoorWaC
import Derived.Test.YtjbjflndiajoiaaGreatDoorWsA
import Derived.Test.YtjbjflndiajoiaaGreatDoorWaX
set_option maxRecDepth 100000
set_option maxHeartbeats 4000000
set_option linter.unusedSimpArgs false
set_option linter.unusedVariables false
namespace Go.Pw
open Go.Proofs Go.Shelf Go.RowKit Go.Lib Go.Sort
theorem Qj8 {w0 w : World} {s : PHeap} {H : List Res} {xs : List Edge} {v : Value} {r : List Edge} (hm : QdI xs = some r) (hS : St w0 s (Res.arr encEdge 100 v xs :: H) w) :
  Calls Tryz.prog 86 #[v, Value.func (.func 87) #[] #[]] w fun e w' => ∃ u, e = .returned u ∧ ((fun (l : List Edge) => ∃ (s' : PHeap), PHeap.le s s' ∧ St w0 s' (Res.arr encEdge 100 v l :: H) w' ∧ u = Value.tuple #[]) r) := by
 unfold QdI KE at hm
 split at hm
 ·rename_i hlen
  have hr := Zu hm
  subst hr
  have key : ∀ x y : Edge, ltOf Qck x y = decide (Qck x y < 0) := fun _ _ => rfl
  have h := Qhr (P := Tryz.prog) (ρ := Qgm) (E := encEdge) (enc := QlZ) (k := 3) Qpk (fun _ => by exact Tryz.isAgg100 _) (fun _ => by exact Tryz.sizeOf100 _) (by decide) (fun _ => rfl)
   (fun x v hv => by simp [QlZ] at hv; rcases hv with rfl | rfl | rfl <;> rfl) Qku rfl Qck
   ⟨fun x => by rw [key]; simp [Qbk], fun x y z h1 h2 => by rw [key] at *; simp only [decide_eq_true_eq, Qbk] at *; omega, fun x y z h1 h2 => by rw [key] at *; simp only [decide_eq_false_iff_not, Qbk] at *; omega⟩
   87 (enters_of Tryz.func87 (by kernel_rfl) rfl)
   (fun W x y => (Qco (Qgn x y) (QfC W)).mono fun e w' ⟨v, he, s', h1, h2, h3⟩ => ⟨v, he, s', h1, h2, h3⟩)
   (fun x y h1 h2 => by
    rw [key] at *
    simp only [decide_eq_false_iff_not, Qbk] at *
    obtain ⟨a, b, c⟩ := x
    obtain ⟨d, e, f⟩ := y
    simp only [Edge.mk.injEq] at *
    omega) hlen hS
  refine h.mono ?_
  rintro e w' ⟨rfl, hS'⟩
  exact ⟨_, Z, s, Zv _, hS', Z⟩
 ·cases hm
end Go.Pw
