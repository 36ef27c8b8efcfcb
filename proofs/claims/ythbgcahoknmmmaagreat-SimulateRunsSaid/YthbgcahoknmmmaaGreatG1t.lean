/-
  Plain Lean: loops over lists, sorting, maps in any order. No program in sight.
-/
import Derived.Test.YthbgcahoknmmmaaGreatB0
import Derived.Test.YthbgcahoknmmmaaGreatL41
set_option linter.unusedVariables false
set_option linter.unusedSimpArgs false
namespace Go.Pw
/-- A loop over a list that looks whether all is right. -/
theorem ctl_list {α R β : Type} {xs : List α} {B : Nat → Unit → Option (Ctl Unit R)} {p : α → Bool} {r : R} {kr : R → Option β} {k : Unit → Option β} (h : ∀ j x, xs[j]? = some x → B j () = some (if p x then .next () else .ret r)) :
    ctl (forC B xs.length 0 ()) kr k = if xs.all p then k () else kr r := by
  rw [ctl_all (p := fun j => (xs[j]?.map p).getD true) (r := r)]
  · have e : (List.range xs.length).all (fun j => (xs[j]?.map p).getD true) = xs.all p := by
      rw [Bool.eq_iff_iff, List.all_eq_true, List.all_eq_true]
      constructor
      · intro h x hx
        obtain ⟨j, hj, rfl⟩ := List.mem_iff_getElem.1 hx
        have := h j (by simpa using hj)
        simpa [List.getElem?_eq_getElem hj] using this
      · intro h j hj
        have hj' : j < xs.length := by simpa using hj
        simpa [List.getElem?_eq_getElem hj'] using h _ (List.getElem_mem hj')
    rw [e]
  · intro j hj
    rw [h j xs[j] (List.getElem?_eq_getElem hj)]
    simp [List.getElem?_eq_getElem hj]
/-- .. that looks for the first that is right. -/
theorem find_from {α : Type} {xs : List α} {B : Nat → Unit → Option (Ctl Unit Int)} {p : α → Bool} (h : ∀ j x, xs[j]? = some x → B j () = some (if p x then .ret (j : Int) else .next ())) :
    ∀ (k i : Nat), i + k = xs.length → (∃ j : Nat, forC B k i () = some (.ret (j : Int)) ∧ (xs.drop i).any p = true) ∨ (forC B k i () = some (.next ()) ∧ (xs.drop i).any p = false)
  | 0, i, e => .inr ⟨rfl, by rw [List.drop_eq_nil_of_le (by omega)]; rfl⟩
  | k + 1, i, e => by
    have hi : i < xs.length := by omega
    have h0 := h i xs[i] (List.getElem?_eq_getElem hi)
    rw [List.drop_eq_getElem_cons hi, List.any_cons]
    simp only [forC, h0]
    cases hp : p xs[i] with
    | true => exact .inl ⟨i, by simp, by simp⟩
    | false => simpa using find_from h k (i + 1) (by omega)
theorem find_list {α : Type} {xs : List α} {B : Nat → Unit → Option (Ctl Unit Int)} {p : α → Bool} (h : ∀ j x, xs[j]? = some x → B j () = some (if p x then .ret (j : Int) else .next ())) :
    Ok (ctl (forC B xs.length 0 ()) (fun r => some r) (fun _ => some (-1))) fun y => decide (0 ≤ y) = xs.any p := by
  rcases find_from h xs.length 0 (by omega) with ⟨j, h1, h2⟩ | ⟨h1, h2⟩
  · refine ⟨(j : Int), ?_, ?_⟩
    · unfold ctl; rw [h1]; rfl
    · rw [List.drop_zero] at h2; rw [h2]; simp
  · refine ⟨-1, ?_, ?_⟩
    · unfold ctl; rw [h1]; rfl
    · rw [List.drop_zero] at h2; rw [h2]; rfl
theorem any_list {α : Type} {xs : List α} {B : Nat → Unit → Option (Ctl Unit Int)} {p : α → Bool} (h : ∀ j x, xs[j]? = some x → B j () = some (if p x then .ret (j : Int) else .next ())) :
    ((ctl (forC B xs.length 0 ()) (fun r => some r) (fun _ => some (-1))).bind fun y : Int => some (decide (0 ≤ y))) = some (xs.any p) := by
  obtain ⟨y, h1, h2⟩ := find_list h
  rw [h1, Option.bind_some, h2]
/-- A loop over a list, with a state. -/
theorem Ok.forL {α S : Type} {xs : List α} {B : Nat → S → Option S} {s : S} {Q : S → Prop} (Inv : List α → S → Prop) (h0 : Inv [] s) (h : ∀ (j : Nat) (l : List α) (x : α) (s : S), xs[j]? = some x → l = xs.take j → Inv l s → Ok (B j s) (Inv (l ++ [x]))) (k : ∀ s, Inv xs s → Q s) : Ok (Go.Pw.forS B xs.length 0 s) Q := by
  refine Ok.forS (fun j s => Inv (xs.take j) s) (by simpa using h0) (fun j s hj hs => ?_) fun s hs => k s (by simpa using hs)
  refine (h j _ xs[j] s (List.getElem?_eq_getElem hj) rfl hs).mono fun s' h' => ?_
  rw [List.take_add_one, List.getElem?_eq_getElem hj]
  exact h'
/-! ### sorting -/
abbrev srtI (l : List Int) : List Int := l.mergeSort fun x y => decide (x ≤ y)
theorem srtI_perm (l : List Int) : (srtI l).Perm l := List.mergeSort_perm l _
theorem srtI_le (l : List Int) : (srtI l).Pairwise (· ≤ ·) := by
  have : (srtI l).Pairwise (fun x y => decide (x ≤ y) = true) := by
    apply List.pairwise_mergeSort
    · intro a b c h1 h2; simp only [decide_eq_true_eq] at *; omega
    · intro a b; simp only [Bool.or_eq_true, decide_eq_true_eq]; omega
  exact this.imp fun h => by simpa using h
theorem srtI_uniq {l k : List Int} (h : k.Perm l) (hk : k.Pairwise (· ≤ ·)) : srtI l = k :=
  List.Perm.eq_of_pairwise (fun a b _ _ h1 h2 => by omega) (srtI_le l) hk ((srtI_perm l).trans h.symm)
theorem srtI_congr {l k : List Int} (h : l.Perm k) : srtI l = srtI k := srtI_uniq ((srtI_perm k).trans h.symm) (srtI_le k)
theorem foldK_app : ∀ (ord l : List Int), (l.length + ord.length) * 8 ≤ 140737488355328 → foldK (fun x ticks => (app 8 ticks [x]).bind fun l => some l) ord l = some (l ++ ord)
  | [], l, _ => by simp [foldK]
  | x :: ord, l, h => by
    simp only [List.length_cons] at h
    rw [foldK, app_ok (by simp; omega)]
    simp only [Option.bind_some]
    rw [foldK_app ord (l ++ [x]) (by simp; omega)]
    simp
end Go.Pw
