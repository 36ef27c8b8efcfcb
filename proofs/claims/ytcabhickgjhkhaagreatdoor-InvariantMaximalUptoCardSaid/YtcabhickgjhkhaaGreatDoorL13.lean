/-
  My walk's base, part 14: the library's sort of a slice of the call's own, at structs (over the shelf's contract).
-/
import Derived.Test.YtcabhickgjhkhaaGreatDoorL12
import Derived.Test.YtcabhickgjhkhaaGreatDoorL7
import Derived.Shelf.SlSortCmp.NoneTotal
set_option linter.unusedSimpArgs false
set_option linter.unusedSectionVars false
namespace Go.Pw
open Go.Proofs Go.Shelf Go.RowKit Go.Lib Go.Sort
section
variable {α : Type} [Inhabited α] {E : Enc α} {enc : α → List Value} {k : Nat}
theorem reps_flat {s : PHeap} (hrep : ∀ s cs x, E.rep s cs x ↔ cs = enc x) : ∀ xs : List α, reps E s (xs.map enc).flatten xs
  | [] => rfl
  | x :: xs => ⟨enc x, _, by simp, (hrep _ _ _).2 rfl, reps_flat hrep xs⟩
theorem reps_eq {s : PHeap} (hrep : ∀ s cs x, E.rep s cs x ↔ cs = enc x) : ∀ {xs : List α} {cells : List Value}, reps E s cells xs → cells = (xs.map enc).flatten
  | [], _, h => h
  | x :: xs, _, ⟨c, r, e, h1, h2⟩ => by rw [e, (hrep _ _ _).1 h1, reps_eq hrep h2]; simp
end
theorem grow_of_St {W w' : World} {s' : PHeap} (hle : PHeap.le (σH W) s') (hS : St W s' [] w') : ∃ q os', w' = grow (W.drewN q) os' := by
  refine ⟨w'.drawn - W.drawn, w'.heap.extract W.heap.size w'.heap.size, ?_⟩
  have hh : w'.heap = W.heap ++ w'.heap.extract W.heap.size w'.heap.size := by
    apply Array.ext_getElem?
    intro b
    have hsz := hS.size
    by_cases hb : b < W.heap.size
    · rw [Array.getElem?_append_left hb]
      obtain ⟨o, ho⟩ : ∃ o, W.heap[b]? = some o := ⟨W.heap[b], by simp [hb]⟩
      rw [ho]
      exact hS.stay b o (hle b o ho)
    · rw [Array.getElem?_append_right (by omega)]
      by_cases hb2 : b < w'.heap.size
      · rw [Array.getElem?_extract]
        rw [if_pos (by omega)]
        congr 1
        omega
      · rw [Array.getElem?_eq_none (by omega), Array.getElem?_eq_none (by simp; omega)]
  obtain ⟨h1, h2, h3, h4, h5⟩ := w'
  have e1 := hS.os
  have e2 := hS.tape
  have e3 := hS.output
  have e4 := hS.drawn
  simp only at e1 e2 e3 e4 hh
  unfold grow World.drewN
  simp only [World.mk.injEq]
  exact ⟨hh, e2, by omega, e1, e3⟩
section
variable {P : Program} {ρ : Ren} {α : Type} [Inhabited α] {E : Enc α} {enc : α → List Value} {k : Nat} {w w0 : World} {s : PHeap} {H : List Res} {Te : TypeId} {v : Value} {xs : List α}
end
end Go.Pw
