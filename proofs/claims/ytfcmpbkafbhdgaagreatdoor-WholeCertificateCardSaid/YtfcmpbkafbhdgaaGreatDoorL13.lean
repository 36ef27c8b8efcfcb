/- -/
import Derived.Test.YtfcmpbkafbhdgaaGreatDoorLC
import Derived.Test.YtfcmpbkafbhdgaaGreatDoorLB
import Derived.Shelf.SlSortCmp.NoneTotal
set_option linter.unusedSimpArgs false
set_option linter.unusedSectionVars false
namespace Go.Pw
open Go.Proofs Go.Shelf Go.RowKit Go.Lib Go.Sort
section
variable {α : Type} [Inhabited α] {E : Enc α} {enc : α → List Value} {k : Nat}
theorem Qgs {s : PHeap} (hrep : ∀ s cs x, E.rep s cs x ↔ cs = enc x) : ∀ xs : List α, reps E s (xs.map enc).flatten xs
 | [] => rfl
 | x :: xs => ⟨enc x, _, by simp, (hrep _ _ _).2 rfl, Qgs hrep xs⟩
theorem QiJ {s : PHeap} (hrep : ∀ s cs x, E.rep s cs x ↔ cs = enc x) : ∀ {xs : List α} {cells : List Value}, reps E s cells xs → cells = (xs.map enc).flatten
 | [], _, h => h
 | x :: xs, _, ⟨c, r, e, h1, h2⟩ => by rw [e, (hrep _ _ _).1 h1, QiJ hrep h2]; simp
theorem Qfo (hk : ∀ x, (enc x).length = k) : ∀ xs : List α, (xs.map enc).flatten.length = xs.length * k
 | [] => by simp
 | x :: xs => by simp only [List.map_cons, List.flatten_cons, List.length_append, hk, Qfo hk xs, List.length_cons, Nat.add_mul]; omega
theorem Qfp (hk : ∀ x, (enc x).length = k) : ∀ (xs : List α) (t : Nat), t < xs.length * k → ((xs.map enc).flatten)[t]? = some ((enc (xs[t / k]!))[t % k]!)
 | [], t, h => by simp at h
 | x :: xs, t, h => by
  have hk0 : 0 < k := Nat.pos_of_ne_zero (by rintro rfl; simp at h)
  rw [List.map_cons, List.flatten_cons]
  by_cases hlt : t < k
  ·rw [List.getElem?_append_left (by rw [hk]; exact hlt), Nat.div_eq_of_lt hlt, Nat.mod_eq_of_lt hlt]
   have : t < (enc x).length := by rw [hk]; exact hlt
   simp [this]
  ·have hge : k ≤ t := by omega
   rw [List.getElem?_append_right (by rw [hk]; exact hge), hk, Qfp hk xs (t - k) (by rw [List.length_cons, Nat.add_mul] at h; omega)]
   have e1 : t / k = (t - k) / k + 1 := by rw [← Nat.sub_add_cancel hge, Nat.add_div_right _ hk0, Nat.add_sub_cancel]
   have e2 : t % k = (t - k) % k := by rw [Nat.mod_eq_sub_mod hge]
   rw [e1, e2]
   simp
end
theorem QfB {W w' : World} {s' : PHeap} (hle : PHeap.le (σH W) s') (hS : St W s' [] w') : ∃ q os', w' = grow (W.drewN q) os' := by
 refine ⟨w'.drawn - W.drawn, w'.heap.extract W.heap.size w'.heap.size, ?_⟩
 have hh : w'.heap = W.heap ++ w'.heap.extract W.heap.size w'.heap.size := by
  apply Array.ext_getElem?
  intro b
  have hsz := hS.size
  by_cases hb : b < W.heap.size
  ·rw [Array.getElem?_append_left hb]
   obtain ⟨o, ho⟩ : ∃ o, W.heap[b]? = some o := ⟨W.heap[b], by simp [hb]⟩
   rw [ho]
   exact hS.stay b o (hle b o ho)
  ·rw [Array.getElem?_append_right (by omega)]
   by_cases hb2 : b < w'.heap.size
   ·rw [Array.getElem?_extract]
    rw [if_pos (by omega)]
    congr 1
    omega
   ·rw [Array.getElem?_eq_none (by omega), Array.getElem?_eq_none (by simp; omega)]
 obtain ⟨h1, h2, h3, h4, h5⟩ := w'
 have e1 := hS.os
 have e2 := hS.tape
 have e3 := hS.output
 have e4 := hS.drawn
 simp only at e1 e2 e3 e4 hh
 unfold grow World.drewN
 simp only [World.mk.injEq]
 exact ⟨hh, e2, by omega, e1, e3⟩
section
variable {P : Program} {ρ : Ren} {α : Type} [Inhabited α] {E : Enc α} {enc : α → List Value} {k : Nat} {w w0 : World} {s : PHeap} {H : List Res} {Te : TypeId} {v : Value} {xs : List α}
theorem Qkl (L : SlLaysF0.n6 P ρ) (aE : ∀ w, (isAgg (ρ.t 24)).run P w = .ok true w) (zE : ∀ w, (Go.sizeOf (ρ.t 24)).run P w = .ok k w) (_hk0 : 0 < k) (hk : ∀ x, (enc x).length = k) (h1 : ∀ x, ∀ v ∈ enc x, v.oneCell' = true) (hrep : ∀ s cs x, E.rep s cs x ↔ cs = enc x) (hE : E.sz = k)
  (cf : α → α → Int) (hO : SWO (ltOf cf)) (g : Nat) (eg : ∀ args w, (callFunc g args).run P w = .ok (.enter g args) w)
  (hcmp : ∀ (W : World) (x y : α), Calls P g #[.agg (enc x).toArray, .agg (enc y).toArray] W fun e w' => ∃ v, e = .returned v ∧ ∃ s', PHeap.le (σH W) s' ∧ St W s' [] w' ∧ v = .int .i64 (cf x y))
  (hT : ∀ x y, (ltOf cf) x y = false → (ltOf cf) y x = false → x = y) (hlen : xs.length < 4611686018427387904) (hS : St w0 s (.arr E Te v xs :: H) w) :
  Calls P (ρ.f 6) #[v, .func (.func g) #[] #[]] w fun e w' => e = .returned (.tuple #[]) ∧ St w0 s (.arr E Te v (xs.mergeSort fun x y => !(ltOf cf) y x) :: H) w' := by
 have hS0 := hS
 obtain ⟨bs, hn, hs, b1, b2, e, ⟨cells, h2, h3, rfl⟩, h4⟩ := hS.own
 rcases h3.2 with ⟨rfl, hx⟩ | ⟨gb, cap, cur, rfl, _, hg, hnc, hcm, hcs, htake⟩
 ·have hx0 : xs = [] := List.eq_nil_of_length_eq_zero hx
  subst hx0
  refine (AnyF.slices_SortFunc_none L none 0 _ w).mono ?_
  rintro e w' ⟨rfl, rfl⟩
  exact ⟨Z, by simpa using hS0⟩
 ·have hcells := QiJ hrep h2
  have hsz : cur.size = cap * k := by rw [hcs, hE]
  have hle : xs.length * k ≤ cur.size := by rw [hsz]; exact Nat.mul_le_mul_right _ hnc
  have hblk : gb < w.heap.size := (Array.getElem?_eq_some_iff.1 hg).1
  have hH : HoldsK enc k w gb 0 xs.toArray := by
   intro j hj
   have hj' : j < xs.length * k := by simpa using hj
   refine ⟨?_, by simp [World.frozen?, hg]⟩
   rw [hE] at htake
   have h5 : (cur.toList.take (xs.length * k))[j]? = cells[j]? := by rw [htake]
   rw [List.getElem?_take_of_lt hj', hcells, Qfp hk xs j hj'] at h5
   simp only [World.cell?, hg, Nat.zero_add, Option.isSome_none, Bool.false_eq_true, if_false]
   rw [← Array.getElem?_toList, h5, get_flatK enc k xs.toArray j (by simpa using hj')]
   simp
  have hlays : CmpLays P g #[] enc k cf gb 0 xs.toArray.size w := by
   intro m os dk _ x y
   refine (hcmp _ x y).mono ?_
   rintro e w' ⟨v, rfl, s', hle, hSt, rfl⟩
   exact ⟨Z, QfB hle hSt⟩
  have hcon := AnyQ.slices_SortFunc_total L k aE zE enc hk h1 cf hO g #[] gb 0 cap xs.toArray w eg hlays hH hblk (by simpa using hlen) hT
  have harg : xs.toArray.size = xs.length := by simp
  rw [harg] at hcon
  refine hcon.mono ?_
  rintro e w' ⟨rfl, n, os, hw⟩
  refine ⟨Z, ?_⟩
  generalize hys : (xs.toArray.toList.mergeSort fun x y => !(ltOf cf) y x) = ys at hw
  have hys' : (xs.mergeSort fun x y => !(ltOf cf) y x) = ys := by simpa using hys
  have hyl : ys.length = xs.length := by rw [← hys', List.length_mergeSort]
  have hheap : w'.heap[gb]? = some (.cells (putCells id 0 (flatK enc k ys.toArray) cur) Te (0, 0)) := by
   rw [hw]
   unfold sortWorldK putRowK
   rw [heap_grow_old _ _ (by simpa using hblk)]
   simp [putRow, mapBlock, Sort.ahead, Array.getElem?_modify, hg, onCells]
  have hother : ∀ b, b < w.heap.size → b ≠ gb → w'.heap[b]? = w.heap[b]? := by
   intro b hb hne
   rw [hw]
   unfold sortWorldK putRowK
   rw [heap_grow_old _ _ (by simpa using hb)]
   simp [putRow, mapBlock, Sort.ahead, Array.getElem?_modify, Ne.symm hne]
  have hsize : w.heap.size ≤ w'.heap.size := by rw [hw]; unfold sortWorldK putRowK grow; simp [Sort.ahead]
  refine hS0.turn (by rw [hw]; rfl) (by rw [hw]; rfl) (by rw [hw]; rfl) (by rw [hw]; unfold sortWorldK putRowK grow; simp [Sort.ahead, putRow, mapBlock]) hsize ?_
  rintro c1 ⟨_, _, _, rfl⟩
  refine ⟨[gb], ⟨(ys.map enc).flatten, Qgs hrep ys, ⟨by rw [hE]; exact Qfo hk ys, .inr ⟨gb, cap, putCells id 0 (flatK enc k ys.toArray) cur, by rw [hyl], Nat.zero_le _, hheap, by rw [hyl]; exact hnc, hcm, by simp [putCells, hcs], ?_⟩⟩, by simp [Value.ownBlock]⟩, by simp, fun x hx => .inl (by simpa [Value.ownBlock] using hx), fun x hx hne => hother x hx (by simpa [Value.ownBlock] using hne)⟩
  rw [hE]
  apply List.ext_getElem?
  intro j
  by_cases hj : j < ys.length * k
  ·rw [List.getElem?_take_of_lt hj, Array.getElem?_toList, Qfp hk ys j hj]
   have hj2 : j < cur.size := by rw [hyl] at hj; omega
   simp only [putCells, Array.getElem?_mapIdx, Nat.zero_le, Nat.zero_add, size_flatK, List.size_toArray, true_and]
   simp only [hj2, Array.getElem?_eq_getElem, Option.map_some, hj, if_true, Nat.sub_zero, id]
   rw [get_flatK enc k ys.toArray j (by simpa using hj)]
   simp
  ·rw [List.getElem?_take_eq_none (by omega), List.getElem?_eq_none (by rw [Qfo hk]; omega)]
end
end Go.Pw
