/- -/
import Derived.Test.YtpjojkomdndamaaGreatDoorMx7
import Derived.Test.YtpjojkomdndamaaGreatDoorMxC
import Derived.Test.YtpjojkomdndamaaGreatDoorL13
import Derived.Test.YtpjojkomdndamaaGreatDoorMxX
set_option maxRecDepth 100000
set_option maxHeartbeats 4000000
set_option linter.unusedSimpArgs false
set_option linter.unusedVariables false
namespace Go.Pw
open Go.Proofs Go.Shelf Go.RowKit Go.Lib Go.Sort
theorem QhM {w0 w : World} {s : PHeap} {H : List Res} {xs : List Edge} {v : Value} {r : List Edge} (hm : QcG xs = some r) (hS : St w0 s (Res.arr encEdge 85 v xs :: H) w) :
  Calls Tryz.prog 87 #[v, Value.func (.func 88) #[] #[]] w fun e w' => ∃ u, e = .returned u ∧ ((fun (l : List Edge) => ∃ (s' : PHeap), PHeap.le s s' ∧ St w0 s' (Res.arr encEdge 85 v l :: H) w' ∧ u = Value.tuple #[]) r) := by
 unfold QcG KJ at hm
 split at hm
 ·rename_i hlen
  have hr := Zu hm
  subst hr
  have key : ∀ x y : Edge, ltOf Qbs x y = decide (Qbs x y < 0) := fun _ _ => rfl
  have h := QfO (P := Tryz.prog) (ρ := QeO) (E := encEdge) (enc := Qkh) (k := 3) Qne (fun _ => by exact Tryz.isAgg85 _) (fun _ => by exact Tryz.sizeOf85 _) (by decide) (fun _ => rfl)
   (fun x v hv => by simp [Qkh] at hv; rcases hv with rfl | rfl | rfl <;> rfl) Qi7 rfl Qbs
   ⟨fun x => by rw [key]; simp [Qaz], fun x y z h1 h2 => by rw [key] at *; simp only [decide_eq_true_eq, Qaz] at *; omega, fun x y z h1 h2 => by rw [key] at *; simp only [decide_eq_false_iff_not, Qaz] at *; omega⟩
   88 (enters_of Tryz.func88 (by kernel_rfl) rfl)
   (fun W x y => (Qb0 (QeP x y) (Qex W)).mono fun e w' ⟨v, he, s', h1, h2, h3⟩ => ⟨v, he, s', h1, h2, h3⟩)
   (fun x y h1 h2 => by
    rw [key] at *
    simp only [decide_eq_false_iff_not, Qaz] at *
    obtain ⟨a, b, c⟩ := x
    obtain ⟨d, e, f⟩ := y
    simp only [Edge.mk.injEq] at *
    omega) hlen hS
  refine h.mono ?_
  rintro e w' ⟨rfl, hS'⟩
  exact ⟨_, Z, s, Zv _, hS', Z⟩
 ·cases hm
end Go.Pw
