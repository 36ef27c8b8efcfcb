/-
  The library's sort of edges by another function, as the walks call it.
-/
import Derived.Test.YtagooehmocpcjaaDoorEx6
import Derived.Test.YtagooehmocpcjaaDoorExC
import Derived.Test.YtagooehmocpcjaaDoorL13
import Derived.Test.YtagooehmocpcjaaDoorExX
set_option maxRecDepth 100000
set_option maxHeartbeats 4000000
set_option linter.unusedSimpArgs false
set_option linter.unusedVariables false
namespace Go.Pw
open Go.Proofs Go.Shelf Go.RowKit Go.Lib Go.Sort
theorem sortProd_sim {w0 w : World} {s : PHeap} {H : List Res} {xs : List Edge} {v : Value} {r : List Edge} (hm : sortProd_p xs = some r) (hS : St w0 s (Res.arr encEdge 53 v xs :: H) w) :
    Calls Tryd.prog 54 #[v, Value.func (.func 44) #[] #[]] w fun e w' => ∃ u, e = .returned u ∧ ((fun (l : List Edge) => ∃ (s' : PHeap), PHeap.le s s' ∧ St w0 s' (Res.arr encEdge 53 v l :: H) w' ∧ u = Value.tuple #[]) r) := by
  unfold sortProd_p sortEdges_p at hm
  split at hm
  · rename_i hlen
    have hr := Option.some.inj hm
    subst hr
    have key : ∀ x y : Edge, ltOf cmpE x y = decide (cmpE x y < 0) := fun _ _ => rfl
    have h := sort_arr (P := Tryd.prog) (ρ := lay54_ren) (E := encEdge) (enc := encE) (k := 3) lay54 (fun _ => by exact Tryd.isAgg53 _) (fun _ => by exact Tryd.sizeOf53 _) (by decide) (fun _ => rfl)
      (fun x v hv => by simp [encE] at hv; rcases hv with rfl | rfl | rfl <;> rfl) encE_rep rfl cmpE
      ⟨fun x => by rw [key]; simp [cmpE_neg], fun x y z h1 h2 => by rw [key] at *; simp only [decide_eq_true_eq, cmpE_neg] at *; omega, fun x y z h1 h2 => by rw [key] at *; simp only [decide_eq_false_iff_not, cmpE_neg] at *; omega⟩
      44 (enters_of Tryd.func44 (by kernel_rfl) rfl)
      (fun W x y => (transys_compare_sim (compare_p x y) (St.start W)).mono fun e w' ⟨v, he, s', h1, h2, h3⟩ => ⟨v, he, s', h1, h2, h3⟩)
      (fun x y h1 h2 => by
        rw [key] at *
        simp only [decide_eq_false_iff_not, cmpE_neg] at *
        obtain ⟨a, b, c⟩ := x
        obtain ⟨d, e, f⟩ := y
        simp only [Edge.mk.injEq] at *
        omega) hlen hS
    refine h.mono ?_
    rintro e w' ⟨rfl, hS'⟩
    exact ⟨_, rfl, s, PHeap.le_refl _, hS', rfl⟩
  · cases hm
end Go.Pw
