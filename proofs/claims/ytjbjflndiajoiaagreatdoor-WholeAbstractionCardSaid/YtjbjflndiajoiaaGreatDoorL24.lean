/- -/
import Derived.Test.YtjbjflndiajoiaaGreatDoorWsA
import Derived.Shelf.Sort.Plain
import Derived.Shelf.Slices.In.SortNone
set_option linter.unusedSimpArgs false
set_option linter.unusedVariables false
namespace Go.Pw
open Go.Proofs Go.Shelf Go.RowKit Go.Lib Go.Sort
section
variable {P : Program} {ρ : Ren} {w w0 : World} {s : PHeap} {H : List Res} {Te : TypeId} {v : Value} {xs : List Int}
theorem Qmn (L : Lays.n189 P ρ) (hlen : xs.length < 4611686018427387904) (hS : St w0 s (.arr (U .i64) Te v xs :: H) w) :
  Calls P (ρ.f 189) #[v] w fun e w' => e = .returned (.tuple #[]) ∧ St w0 s (.arr (U .i64) Te v (xs.mergeSort fun x y => decide (x ≤ y)) :: H) w' := by
 have hS0 := hS
 have hrep : ∀ (s : PHeap) (cs : List Value) (x : Int), (U .i64).rep s cs x ↔ cs = [Value.int .i64 x] := fun s cs x => Iff.rfl
 have hk : ∀ x : Int, ([Value.int .i64 x] : List Value).length = 1 := fun _ => rfl
 have hflat : ∀ l : List Int, (l.map fun x => ([Value.int .i64 x] : List Value)).flatten = l.map (Value.int .i64) := by
  intro l
  induction l with
  | nil => rfl
  | cons x l ih => simp [ih]
 obtain ⟨bs, hn, hs, b1, b2, e, ⟨cells, h2, h3, rfl⟩, h4⟩ := hS.own
 rcases h3.2 with ⟨rfl, hx⟩ | ⟨gb, cap, cur, rfl, _, hg, hnc, hcm, hcs, htake⟩
 ·have hx0 : xs = [] := List.eq_nil_of_length_eq_zero hx
  subst hx0
  refine (Any.slices_Sort_int_none L none 0 w).mono ?_
  rintro e w' ⟨rfl, rfl⟩
  exact ⟨Z, by simpa using hS0⟩
 ·have hcells := Qfx (enc := fun x => [Value.int .i64 x]) hrep h2
  rw [hflat] at hcells
  have hE : (U .i64).sz = 1 := rfl
  rw [hE, Nat.mul_one] at hcs htake
  have hle : xs.length ≤ cur.size := by omega
  have hblk : gb < w.heap.size := (Array.getElem?_eq_some_iff.1 hg).1
  have hH : Holds (Value.int .i64) w gb 0 xs.toArray := by
   intro j hj
   have hj' : j < xs.length := by simpa using hj
   refine ⟨?_, by simp [World.frozen?, hg]⟩
   have h5 : (cur.toList.take xs.length)[j]? = cells[j]? := by rw [htake]
   rw [List.getElem?_take_of_lt hj', hcells] at h5
   simp only [World.cell?, hg, Nat.zero_add, Option.isSome_none, Bool.false_eq_true, if_false]
   rw [← Array.getElem?_toList, h5]
   simp [hj']
  refine (Any.slices_Sort_int L gb 0 cap xs w hH hblk hlen).mono ?_
  rintro e w' ⟨rfl, n, os, hw⟩
  refine ⟨Z, ?_⟩
  generalize hys : (xs.mergeSort fun x y => decide (x ≤ y)) = ys at hw ⊢
  have hyl : ys.length = xs.length := by rw [← hys, List.length_mergeSort]
  have hheap : w'.heap[gb]? = some (.cells (putCells (Value.int .i64) 0 ys.toArray cur) Te (0, 0)) := by
   rw [hw]
   rw [heap_grow_old _ _ (by simpa [putRow, mapBlock, Sort.ahead] using hblk)]
   simp [putRow, mapBlock, Sort.ahead, Array.getElem?_modify, hg, onCells]
  have hother : ∀ b, b < w.heap.size → b ≠ gb → w'.heap[b]? = w.heap[b]? := by
   intro b hb hne
   rw [hw]
   rw [heap_grow_old _ _ (by simpa [putRow, mapBlock, Sort.ahead] using hb)]
   simp [putRow, mapBlock, Sort.ahead, Array.getElem?_modify, Ne.symm hne]
  have hsize : w.heap.size ≤ w'.heap.size := by rw [hw]; unfold grow; simp [Sort.ahead, putRow, mapBlock]
  refine hS0.turn (by rw [hw]; rfl) (by rw [hw]; rfl) (by rw [hw]; rfl) (by rw [hw]; unfold grow; simp [Sort.ahead, putRow, mapBlock]) hsize ?_
  rintro c1 ⟨_, _, _, rfl⟩
  refine ⟨[gb], ⟨ys.map (Value.int .i64), by rw [← hflat]; exact Qe6 (enc := fun x => [Value.int .i64 x]) hrep ys, ⟨by rw [hE]; simp, .inr ⟨gb, cap, putCells (Value.int .i64) 0 ys.toArray cur, by rw [hyl], Nat.zero_le _, hheap, by rw [hyl]; exact hnc, hcm, by simp [putCells, hcs, hE], ?_⟩⟩, by simp [Value.ownBlock]⟩, by simp, fun x hx => .inl (by simpa [Value.ownBlock] using hx), fun x hx hne => hother x hx (by simpa [Value.ownBlock] using hne)⟩
  rw [hE, Nat.mul_one]
  apply List.ext_getElem?
  intro j
  by_cases hj : j < ys.length
  ·rw [List.getElem?_take_of_lt hj, Array.getElem?_toList]
   have hj2 : j < cur.size := by omega
   simp only [putCells, Array.getElem?_mapIdx, Nat.zero_le, Nat.zero_add, List.size_toArray, true_and]
   simp only [hj2, Array.getElem?_eq_getElem, Option.map_some, hj, if_true, Nat.sub_zero]
   simp [hj]
  ·rw [List.getElem?_take_eq_none (by omega), List.getElem?_eq_none (by simp; omega)]
end
end Go.Pw
