/-
  My walk's base, part 19: parts of an owned row, as values.
-/
import Derived.Test.YthbgcahoknmmmaaGreatL17
set_option linter.unusedSimpArgs false
namespace Go.Pw
/-- u is the part [l, l + n) of the slice v, that has elements (of sz cells). -/
def SubOf (sz : Nat) (v u : Value) (l n : Nat) : Prop := (u = v ∧ l = 0 ∧ ∃ a c, v = .slice a n c) ∨ ∃ g cap len, v = .slice (some ⟨g, 0, none⟩) len cap ∧ l + n ≤ len ∧ len ≤ cap ∧ u = .slice (some ⟨g, if cap = l then 0 else l * sz, none⟩) n (cap - l)
section
variable {P : Program} {ρ : Operand → Value} {o : Oper} {w w0 : World} {s : PHeap} {H : List Res} {K : Value → World → Prop} {T Te : TypeId} {α : Type} {E : Enc α} {xs : List α} {v u : Value}
theorem SubOf.mk {g cap len l n sz : Nat} (h1 : l + n ≤ len) (h2 : len ≤ cap) :
    SubOf sz (.slice (some ⟨g, 0, none⟩) len cap) (.slice (if cap = l then some (⟨g, 0, none⟩ : Addr) else (some (⟨g, 0, none⟩ : Addr)).map (·.add (l * sz))) n (cap - l)) l n := by
  refine .inr ⟨g, cap, len, rfl, h1, h2, ?_⟩
  by_cases h : cap = l
  · rw [if_pos h, if_pos h]
  · rw [if_neg h, if_neg h]
    simp [Addr.add_lit]
end
end Go.Pw
