/-
  My walk's base, part 40: a map of ints to slices that the call owns, with the slices' rows.
-/
import Derived.Test.YtcabhickgjhkhaaGreatDoorL31
import Derived.Test.YtcabhickgjhkhaaGreatDoorL12
import Derived.Test.YtcabhickgjhkhaaGreatDoorL8
import Derived.Maps.RangeWalk
set_option linter.unusedSimpArgs false
set_option linter.unusedVariables false
namespace Go.Pw
/-! ### the pure words -/
def aget {α : Type} : List (Int × α) → Int → Option α
  | [], _ => none
  | (k, v) :: r, s => if k = s then some v else aget r s
def aput {α : Type} : List (Int × α) → Int → α → List (Int × α)
  | [], s, v => [(s, v)]
  | (k, u) :: r, s, v => if k = s then (k, v) :: r else (k, u) :: aput r s v
section
variable {α β : Type}
theorem aput_length (m : List (Int × α)) (s : Int) (v : α) : (aput m s v).length = if (aget m s).isSome then m.length else m.length + 1 := by
  induction m with
  | nil => simp [aput, aget]
  | cons p r ih =>
    obtain ⟨k, u⟩ := p
    unfold aput aget
    by_cases h : k = s
    · rw [if_pos h, if_pos h]; simp
    · rw [if_neg h, if_neg h, List.length_cons, ih]
      split <;> simp
theorem aget_put (m : List (Int × α)) (s t : Int) (v : α) : aget (aput m s v) t = if s = t then some v else aget m t := by
  induction m with
  | nil => simp [aput, aget]
  | cons p r ih =>
    obtain ⟨k, u⟩ := p
    unfold aput
    by_cases h : k = s
    · rw [if_pos h]
      unfold aget
      by_cases h2 : s = t
      · rw [if_pos h2, if_pos (h.trans h2)]
      · have h3 : ¬ k = t := fun e => h2 (h.symm.trans e)
        rw [if_neg h2, if_neg h3, if_neg h3]
    · rw [if_neg h]
      unfold aget
      rw [ih]
      by_cases h2 : k = t
      · have h3 : ¬ s = t := fun e => h (h2.trans e.symm)
        rw [if_pos h2, if_neg h3, if_pos h2]
      · rw [if_neg h2, if_neg h2]
end
abbrev VMap := List (Int × Value)
/-! ### two things that are owned, as one -/
section
variable {w w0 : World} {s : PHeap} {H : List Res} {A B : Res} {φ : Prop}
/-- What is owned, seen otherwise. -/
theorem St.conv (hS : St w0 s (A :: H) w) (h : ∀ bs, A.p s w bs → B.p s w bs) : St w0 s (B :: H) w := by
  obtain ⟨bs, hn, hs, b1, b2, e, h1, h2⟩ := hS.own
  exact ⟨hS.os, hS.tape, hS.output, hS.drawn, hS.size, hS.stay, bs, hn, hs, b1, b2, e, h b1 h1, h2⟩
end
/-! ### the map, its elements as they lie -/
abbrev DV := DataW Value
def rawElem (v : Value) : Option (DV × List MemPlace) := if v.oneCell' = true then some (.held v, []) else none
theorem rawElem_inv {v : Value} {z : DV × List MemPlace} (h : rawElem v = some z) : z = (.held v, []) := by
  unfold rawElem at h
  split at h
  · exact (Zu h).symm
  · cases h
def VReads (D : DV) (m : VMap) : Prop := (∀ s : Int, Maps.has D (.int .i64 s) = (aget m s).isSome) ∧ (∀ (s : Int) (v : Value) (z : DV), aget m s = some v → D.atKey (.int .i64 s) z = .held v) ∧ Maps.size D = m.length
theorem VReads.put {D : DV} {m : VMap} (h : VReads D m) (ht : Maps.Tidy D) (s : Int) (v : Value) : VReads (D.put (.int .i64 s) (.held v)) (aput m s v) := by
  obtain ⟨h1, h2, h3⟩ := h
  refine ⟨fun t => ?_, fun t u z ht2 => ?_, ?_⟩
  · rw [aget_put]
    by_cases e : s = t
    · subst e
      rw [if_pos rfl, Maps.has_put_same ht.isMap (isKeyLit_int _)]
      rfl
    · rw [if_neg e, Maps.has_put_other (fun he => e (by injection he with _ he; first | exact he.symm | exact he)), h1]
  · rw [aget_put] at ht2
    by_cases e : s = t
    · subst e
      rw [if_pos rfl] at ht2
      cases ht2
      rw [Maps.atKey_put_same ht.isMap (isKeyLit_int _)]
    · rw [if_neg e] at ht2
      rw [Maps.atKey_put_other (fun he => e (by injection he with _ he; first | exact he.symm | exact he))]
      exact h2 t u z ht2
  · rw [Maps.size_put ht, h1, aput_length, h3]
theorem ownsMap_tight' {H : Type} {P : Program} {k : TypeId} {R : Value → Option (DataW H × List MemPlace)} {w : World} {b n : Nat} {D : DataW H} (h : w.ownsMap P k R b n D) : w.ownsMap P k R b (Maps.size D) D := by
  obtain ⟨es, clock, hb, F, hs, rfl⟩ := h
  exact ⟨es, clock, hb, F, by simp [Maps.size, length_sorted], rfl⟩
theorem zero_at {P : Program} {e : TypeId} {z : Value} (hz : tyZero P e = some z) (w : World) : (zeroValue e).run P w = .ok z w := by
  unfold tyZero at hz
  cases hi : P.info? e with
  | none => rw [hi] at hz; cases hz
  | some i =>
    rw [hi] at hz
    simp at hz
    simp [zeroValue, typeInfo, hi, hz, Result.andThen]
section
variable {P : Program} {ρ : Operand → Value} {o : Oper} {w w0 : World} {s : PHeap} {H : List Res} {K : Value → World → Prop} {T k e : TypeId} {b : Nat} {m : VMap}
abbrev nilS : Value := .slice none 0 0
end
/-! ### with its rows -/
section
variable {α : Type}
variable {P : Program} {ρ : Operand → Value} {o : Oper} {w w0 : World} {s : PHeap} {H : List Res} {K : Value → World → Prop} {T k e Te : TypeId} {b : Nat} {m : VMap} {E : Enc α} {M : List (Int × List α)} {q : Int}
/-! ### given to what stays, but for the map itself -/
end
end Go.Pw
