/- -/
import Derived.Test.YtfcmpbkafbhdgaaGreatDoorL13
import Derived.Shelf.SlSortCmp.Whole1
set_option linter.unusedSimpArgs false
set_option linter.unusedVariables false
namespace Go.Pw
open Go.Proofs Go.Shelf Go.RowKit Go.Lib Go.Sort
abbrev RLE {α : Type} (E : Enc α) (s : PHeap) := {p : Value × List α // SliceRep E s p.1 p.2}
instance {α : Type} (E : Enc α) (s : PHeap) : Inhabited (RLE E s) := ⟨⟨(.slice none 0 0, []), SliceRep.nil _ _⟩⟩
def hdE {α : Type} {E : Enc α} {s : PHeap} (p : RLE E s) : Value := p.1.1
theorem QjK {α : Type} {E : Enc α} {s : PHeap} : ∀ {cells : List Value} {xs : List (List α)}, reps (Qa E) s cells xs → ∃ ds : List (RLE E s), ds.map hdE = cells ∧ ds.map (fun p => p.1.2) = xs
 | cells, [], h => ⟨[], h.symm, rfl⟩
 | cells, x :: xs, ⟨c, r, e, ⟨u, hu, h1⟩, h2⟩ => by
  obtain ⟨ds, e1, e2⟩ := QjK h2
  subst hu e
  exact ⟨⟨(u, x), h1⟩ :: ds, by rw [List.map_cons, e1]; rfl, by rw [List.map_cons, e2]⟩
theorem Qhz {α : Type} {E : Enc α} {s : PHeap} : ∀ (ds : List (RLE E s)), reps (Qa E) s (ds.map hdE) (ds.map (fun p => p.1.2))
 | [] => rfl
 | d :: ds => ⟨[hdE d], ds.map hdE, rfl, ⟨_, rfl, d.2⟩, Qhz ds⟩
section
variable {α : Type} {E : Enc α} {P : Program} {ρ : Ren} {w w0 : World} {s : PHeap} {H : List Res} {Te : TypeId} {v : Value} {xs : List (List α)}
theorem Qjo (L : SlLaysF.n6 P ρ) (cf : List α → List α → Int) (hO : SWO (ltOf cf)) (hT : ∀ x y, (ltOf cf) x y = false → (ltOf cf) y x = false → x = y) (g : Nat) (eg : ∀ args w, (callFunc g args).run P w = .ok (.enter g args) w)
  (hcmp : ∀ (W : World) (t : PHeap), (∀ b o, t b = some o → W.heap[b]? = some o) → ∀ (u1 u2 : Value) (x y : List α), SliceRep E t u1 x → SliceRep E t u2 y → Calls P g #[u1, u2] W fun e w' => e = .returned (.int .i64 (cf x y)) ∧ ∃ q os', w' = grow (W.drewN q) os')
  (hlen : xs.length < 4611686018427387904) (hS : St w0 s (.arr (Qa E) Te v xs :: H) w) :
  Calls P (ρ.f 6) #[v, .func (.func g) #[] #[]] w fun e w' => e = .returned (.tuple #[]) ∧ St w0 s (.arr (Qa E) Te v (xs.mergeSort fun x y => !(ltOf cf) y x) :: H) w' := by
 have hS0 := hS
 obtain ⟨bs, hn, hs, b1, b2, e, ⟨cells, h2, h3, rfl⟩, h4⟩ := hS.own
 rcases h3.2 with ⟨rfl, hx⟩ | ⟨gb, cap, cur, rfl, _, hg, hnc, hcm, hcs, htake⟩
 ·have hx0 : xs = [] := List.eq_nil_of_length_eq_zero hx
  subst hx0
  refine (AnyF.slices_SortFunc_none { L with } none 0 _ w).mono ?_
  rintro e w' ⟨rfl, rfl⟩
  exact ⟨Z, by simpa using hS0⟩
 ·obtain ⟨ds, e1, e2⟩ := QjK h2
  have hE : (Qa E).sz = 1 := rfl
  rw [hE, Nat.mul_one] at hcs htake
  have Yn : ds.length = xs.length := by rw [← e2, List.length_map]
  have hle : xs.length ≤ cur.size := by omega
  have hblk : gb < w.heap.size := (Array.getElem?_eq_some_iff.1 hg).1
  have hsg : s gb = none := hs gb (by subst e; simp [Value.ownBlock])
  have hH : Holds hdE w gb 0 ds.toArray := by
   intro j hj
   have hj' : j < ds.length := by simpa using hj
   refine ⟨?_, by simp [World.frozen?, hg]⟩
   have h5 : (cur.toList.take xs.length)[j]? = cells[j]? := by rw [htake]
   rw [List.getElem?_take_of_lt (by omega), ← e1] at h5
   simp only [World.cell?, hg, Nat.zero_add, Option.isSome_none, Bool.false_eq_true, if_false]
   rw [← Array.getElem?_toList, h5]
   simp [hj']
  have hlays : CmpLays1 P g #[] hdE (fun p q : RLE E s => cf p.1.2 q.1.2) gb 0 ds.toArray.size w := by
   intro m os dk hdk x y
   refine (hcmp _ s ?_ _ _ _ _ x.2 y.2).mono fun e w' h => h
   intro b o hb
   have hbl := hS.stay b o hb
   have hlt : b < w.heap.size := (Array.getElem?_eq_some_iff.1 hbl).1
   have hne : b ≠ gb := fun q => by rw [q, hsg] at hb; cases hb
   unfold sortWorld
   rw [heap_grow_old _ _ (by simpa [putRow, mapBlock, Sort.ahead] using hlt)]
   simp [putRow, mapBlock, Sort.ahead, Array.getElem?_modify, Ne.symm hne, hbl]
  have hO' : SWO (ltOf (fun p q : RLE E s => cf p.1.2 q.1.2)) := ⟨fun x => hO.irrefl _, fun x y z => hO.trans _ _ _, fun x y z => hO.ntrans _ _ _⟩
  have hcon := Any.slices_SortFunc L hdE (fun p => p.2.one) (fun p q : RLE E s => cf p.1.2 q.1.2) hO' g #[] gb 0 cap ds.toArray w eg hlays hH hblk (by simpa [Yn] using hlen)
  have harg : ds.toArray.size = xs.length := by simp [Yn]
  rw [harg] at hcon
  refine hcon.mono ?_
  rintro e w' ⟨rfl, d', n, os, hp, hso, hw⟩
  refine ⟨Z, ?_⟩
  obtain ⟨hsz, _, hperm⟩ := hp
  have hds : ds.toArray.size = xs.length := harg
  have e4 : d'.extract 0 xs.length = d' := by
   have : d'.size = xs.length := by rw [hsz, hds]
   rw [← this]; exact Array.extract_size
  have e5 : ds.toArray.extract 0 xs.length = ds.toArray := by rw [← hds]; exact Array.extract_size
  rw [e4, e5] at hperm
  generalize hys : (xs.mergeSort fun x y => !(ltOf cf) y x) = ys
  have hd' : d'.toList.map (fun p => p.1.2) = ys := by
   rw [← hys]
   have hpm : (d'.toList.map (fun p => p.1.2)).Perm xs := by
    have := hperm.map (fun p : RLE E s => p.1.2)
    rw [show ds.toArray.toList = ds by simp, e2] at this
    exact this
   refine List.Perm.eq_of_pairwise (le := fun x y => (!(ltOf cf) y x) = true) ?_ ?_ ?_ (hpm.trans (List.mergeSort_perm _ _).symm)
   ·intro a b _ _ k1 k2
    simp only [Bool.not_eq_true'] at k1 k2
    exact hT a b k2 k1
   ·rw [List.pairwise_map, List.pairwise_iff_getElem]
    intro i j hi hj hij
    have hi' : i < d'.size := by simpa using hi
    have hj' : j < d'.size := by simpa using hj
    have := hso i j (Nat.zero_le _) hij (by omega)
    rw [getElem!_pos d' i hi', getElem!_pos d' j hj'] at this
    simp only [Array.getElem_toList, Bool.not_eq_true']
    exact this
   ·refine List.pairwise_mergeSort (fun a b c k1 k2 => ?_) (fun a b => ?_) xs
    ·simp only [Bool.not_eq_true'] at k1 k2 ⊢
     exact hO.ntrans _ _ _ k2 k1
    ·simp only [Bool.or_eq_true, Bool.not_eq_true']
     cases hab : ltOf cf b a with
     | false => exact .inl rfl
     | true =>
      right
      cases hba : ltOf cf a b with
      | false => rfl
      | true => have := hO.trans _ _ _ hab hba; rw [hO.irrefl] at this; cases this
  have hyl : ys.length = xs.length := by rw [← hys, List.length_mergeSort]
  have hdl' : d'.size = ys.length := by rw [hyl, hsz, hds]
  have hheap : w'.heap[gb]? = some (.cells (putCells hdE 0 d' cur) Te (0, 0)) := by
   rw [hw]
   unfold sortWorld
   rw [heap_grow_old _ _ (by simpa [putRow, mapBlock, Sort.ahead] using hblk)]
   simp [putRow, mapBlock, Sort.ahead, Array.getElem?_modify, hg, onCells]
  have hother : ∀ b, b < w.heap.size → b ≠ gb → w'.heap[b]? = w.heap[b]? := by
   intro b hb hne
   rw [hw]
   unfold sortWorld
   rw [heap_grow_old _ _ (by simpa [putRow, mapBlock, Sort.ahead] using hb)]
   simp [putRow, mapBlock, Sort.ahead, Array.getElem?_modify, Ne.symm hne]
  have hsize : w.heap.size ≤ w'.heap.size := by rw [hw]; unfold sortWorld grow; simp [Sort.ahead, putRow, mapBlock]
  refine hS0.turn (by rw [hw]; rfl) (by rw [hw]; rfl) (by rw [hw]; rfl) (by rw [hw]; unfold sortWorld grow; simp [Sort.ahead, putRow, mapBlock]) hsize ?_
  rintro c1 ⟨_, _, _, rfl⟩
  refine ⟨[gb], ⟨d'.toList.map hdE, by rw [← hd']; exact Qhz _, ⟨by rw [hE]; simp [hdl'], .inr ⟨gb, cap, putCells hdE 0 d' cur, by rw [hyl], Nat.zero_le _, hheap, by rw [hyl]; exact hnc, hcm, by simp [putCells, hcs, hE], ?_⟩⟩, by simp [Value.ownBlock]⟩, by simp, fun x hx => .inl (by simpa [Value.ownBlock] using hx), fun x hx hne => hother x hx (by simpa [Value.ownBlock] using hne)⟩
  rw [hE, Nat.mul_one]
  apply List.ext_getElem?
  intro j
  by_cases hj : j < ys.length
  ·rw [List.getElem?_take_of_lt hj, Array.getElem?_toList]
   have hj2 : j < cur.size := by omega
   have hj3 : j < d'.size := by omega
   simp only [putCells, Array.getElem?_mapIdx, Nat.zero_le, Nat.zero_add, true_and]
   simp only [hj2, Array.getElem?_eq_getElem, Option.map_some, hj3, if_true, Nat.sub_zero]
   simp [hj3]
  ·rw [List.getElem?_take_eq_none (by omega), List.getElem?_eq_none (by simp; omega)]
end
end Go.Pw
