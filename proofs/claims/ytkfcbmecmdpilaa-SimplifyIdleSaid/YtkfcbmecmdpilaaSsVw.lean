/-
  SimplifyCopies, in plain Lean.
-/
import Derived.Test.YtkfcbmecmdpilaaSsVv
set_option maxHeartbeats 8000000
set_option linter.unusedSimpArgs false
set_option linter.unusedVariables false
namespace Go.Pw
theorem bl_ext {a b : List Bool} (hl : a.length = b.length) (h : ∀ i, i < a.length → (a[i]? = some true ↔ b[i]? = some true)) : a = b := by
  refine mk_ext hl fun i => ?_
  constructor
  · intro q
    have := mk_lt q
    exact ⟨q.1, (h i.toNat (by omega)).1 q.2⟩
  · intro q
    have := mk_lt q
    exact ⟨q.1, (h i.toNat (by omega)).2 q.2⟩
/-! ### what stays of lists put together -/
theorem keep_zip {α : Type} {S : List Bool} {xs : List α} (hl : xs.length = S.length) : keep S xs = (S.zip xs).filterMap fun p => if p.1 then some p.2 else none := by
  have key : ∀ j, j ≤ xs.length → keepTo S xs j = ((S.zip xs).take j).filterMap fun p => if p.1 then some p.2 else none := by
    intro j
    induction j with
    | zero => intro _; simp [keepTo]
    | succ j ih =>
      intro hj
      obtain ⟨x, hx⟩ := get_len (xs := xs) (i := j) (by omega)
      obtain ⟨b, hb⟩ := get_len (xs := S) (i := j) (by omega)
      have hz : (S.zip xs)[j]? = some (b, x) := by rw [List.getElem?_zip_eq_some]; exact ⟨hb, hx⟩
      rw [keepTo_succ hx, ih (by omega), take_snoc hz, List.filterMap_append, hb]
      cases b <;> simp
  rw [← keepTo_len, key _ (Nat.le_refl _)]
  congr 1
  rw [List.take_of_length_le]
  simp; omega
theorem keep_append {α : Type} {S T : List Bool} {xs ys : List α} (hl : xs.length = S.length) (hk : ys.length = T.length) : keep (S ++ T) (xs ++ ys) = keep S xs ++ keep T ys := by
  rw [keep_zip (by simp; omega), keep_zip hl, keep_zip hk, List.zip_append (by omega), List.filterMap_append]
theorem keep_no {α : Type} (x : α) : keep [false] [x] = [] := by simp [keep]
theorem numF_snoc (A : List Bool) : numF (A ++ [false]) = numF A ++ [-1] := by
  apply List.ext_getElem?
  intro i
  rcases Nat.lt_trichotomy i A.length with h | h | h
  · rw [List.getElem?_append_left (by rw [numF_len]; omega), numF_get h, numF_get (by simp; omega), List.getElem?_append_left h]
    rw [List.take_append_of_le_length (by omega)]
  · subst h
    rw [numF_get (by simp), if_neg (by simp), List.getElem?_append_right (by rw [numF_len]; exact Nat.le_refl _)]
    simp [numF_len]
  · rw [List.getElem?_eq_none (by rw [numF_len]; simp; omega), List.getElem?_eq_none (by simp [numF_len]; omega)]
section
variable {A F : List Bool} {g : Ground} {c x : GOp} {i0 : Nat}
end
section
variable {fu : Nat} {g : Ground}
theorem wrap_small {n : Int} (h0 : 0 ≤ n) (h1 : n < 256) : IntKind.i64.wrap n = n := wrap_id (by omega) (by omega)
/-- The start of a law with one more guard. -/
theorem law_start2 {β : Type} {g : Ground} (hl : LenG g) (hs : SizeOf.sizeOf g ≤ fu) {b2 : Bool} {K : Bool → Option β} {r : Option β} (h1 : K true = r) (h0 : g.Ops.length ≤ 30 → b2 = false → K false = r) :
    (((law18_Large_p fu g).bind fun (y100 : Bool) => if y100 then (some true) else (if decide (30 < (g.Ops.length : Int)) then (some true) else (if b2 then (some true) else ((law19_awake_p fu).bind fun (y101 : Bool) => some (!y101))))).bind K) = r := by
  obtain ⟨b, hb, _⟩ := large_ok (fu := fu) hl hs
  rw [hb, awake_ok]
  simp only [Option.bind_some]
  cases b with
  | true => simpa using h1
  | false =>
    by_cases h : 30 < (g.Ops.length : Int)
    · simpa [h] using h1
    · have h' : decide (30 < (g.Ops.length : Int)) = false := decide_eq_false h
      have h2 := h0 (by omega)
      rw [h']
      cases b2 with
      | true => simpa using h1
      | false => simpa using h2 rfl
end
end Go.Pw
