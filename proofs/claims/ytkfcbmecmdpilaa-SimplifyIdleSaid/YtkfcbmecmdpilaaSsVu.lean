/-
  The simplified task is a valid one, in plain Lean.
-/
import Derived.Test.YtkfcbmecmdpilaaSsVQ
set_option maxHeartbeats 8000000
set_option linter.unusedSimpArgs false
set_option linter.unusedVariables false
namespace Go.Pw
section
variable {A F : List Bool}
theorem mk_lt {i : Int} (h : Mk A i) : 0 ≤ i ∧ i < (A.length : Int) := by
  have := (List.getElem?_eq_some_iff.1 h.2).1
  have := h.1
  omega
theorem na_eq {i : Int} (h : Mk A i) : at0 (numF A) i = ((cnt (A.take i.toNat) : Nat) : Int) := by
  rw [at0_num (mk_lt h).1 (mk_lt h).2, if_pos h.2]
variable {g : Ground}
end
end Go.Pw
