/-
  Loops that fill lists; the edges of a valid system are sorted.
-/
import Derived.Test.YtagooehmocpcjaaDoorExVE
set_option maxHeartbeats 4000000
set_option linter.unusedSimpArgs false
set_option linter.unusedVariables false
namespace Go.Pw
theorem forS_list {α β : Type} (xs : List α) (g : α → List β) {B : Nat → List β → Option (List β)} {s0 : List β} (h : ∀ i y s, xs[i]? = some y → s = s0 ++ (xs.take i).flatMap g → B i s = some (s ++ g y)) :
    forS B xs.length 0 s0 = some (s0 ++ xs.flatMap g) := by
  refine Ok.eq (Ok.forS (fun i s => s = s0 ++ (xs.take i).flatMap g) (by simp) ?_ (fun s hs => by rw [hs, List.take_length]))
  intro i s hi hs
  obtain ⟨y, hy⟩ := get_len hi
  refine Ok.of (h i y s hy hs) ?_
  rw [hs, List.append_assoc]
  congr 1
  rw [List.take_add_one, hy]
  simp [List.flatMap_append]
theorem forS_range {β : Type} (n : Nat) (g : Nat → List β) {B : Nat → List β → Option (List β)} {s0 : List β} (h : ∀ i s, i < n → s = s0 ++ (List.range i).flatMap g → B i s = some (s ++ g i)) :
    forS B n 0 s0 = some (s0 ++ (List.range n).flatMap g) := by
  refine Ok.eq (Ok.forS (fun i s => s = s0 ++ (List.range i).flatMap g) (by simp) ?_ (fun s hs => hs))
  intro i s hi hs
  refine Ok.of (h i s hi hs) ?_
  rw [hs, List.append_assoc]
  congr 1
  rw [List.range_succ]
  simp [List.flatMap_append]
theorem flat_le {α β : Type} {g : α → List β} {M : Nat} : ∀ {xs : List α}, (∀ x ∈ xs, (g x).length ≤ M) → (xs.flatMap g).length ≤ xs.length * M
  | [], _ => by simp
  | x :: xs, h => by
    rw [List.flatMap_cons, List.length_append, List.length_cons, Nat.add_mul, Nat.one_mul]
    have h1 := h x (by simp)
    have h2 := flat_le (xs := xs) (g := g) (M := M) fun y hy => h y (by simp [hy])
    omega
theorem flat_one {α β : Type} {g : α → β} (xs : List α) : xs.flatMap (fun y => [g y]) = xs.map g := by
  induction xs with
  | nil => rfl
  | cons x xs ih => simp [ih]

theorem VSys.srt {x : System} (h : VSys x) : Srt x.Edges := by
  refine List.pairwise_iff_getElem.2 ?_
  intro i j hi hj hij
  obtain ⟨k, rfl⟩ : ∃ k, j = i + 1 + k := ⟨j - i - 1, by omega⟩
  clear hij
  induction k with
  | zero => exact h.ord i _ _ (by simp [hi]) (by simp [show i + 1 < x.Edges.length by omega])
  | succ k ih => exact (ih (by omega)).trans (h.ord (i + 1 + k) _ _ (by simp [show i + 1 + k < x.Edges.length by omega]) (by simp [show i + 1 + k + 1 < x.Edges.length by omega]; rfl))

end Go.Pw
