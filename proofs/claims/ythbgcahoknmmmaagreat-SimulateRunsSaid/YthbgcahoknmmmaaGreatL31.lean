/-
  My walk's base, part 31: a map of ints to truth values that the call owns.
-/
import Derived.Test.YthbgcahoknmmmaaGreatL14
set_option linter.unusedSimpArgs false
set_option linter.unusedVariables false
namespace Go.Pw
/-! ### the pure words -/
abbrev BMap := List (Int × Bool)
def bget (m : BMap) (s : Int) : Option Bool := match m with
  | [] => none
  | (k, v) :: r => if k = s then some v else bget r s
def bput (m : BMap) (s : Int) (v : Bool) : BMap := match m with
  | [] => [(s, v)]
  | (k, u) :: r => if k = s then (k, v) :: r else (k, u) :: bput r s v
def i64ok (n : Int) : Prop := -9223372036854775808 ≤ n ∧ n ≤ 9223372036854775807
instance (n : Int) : Decidable (i64ok n) := by unfold i64ok; infer_instance
theorem bput_length (m : BMap) (s : Int) (v : Bool) : (bput m s v).length = if (bget m s).isSome then m.length else m.length + 1 := by
  induction m with
  | nil => simp [bput, bget]
  | cons p r ih =>
    obtain ⟨k, u⟩ := p
    unfold bput bget
    by_cases h : k = s
    · rw [if_pos h, if_pos h]; simp
    · rw [if_neg h, if_neg h, List.length_cons, ih]
      split <;> simp
theorem bget_put (m : BMap) (s t : Int) (v : Bool) : bget (bput m s v) t = if s = t then some v else bget m t := by
  induction m with
  | nil => simp [bput, bget]
  | cons p r ih =>
    obtain ⟨k, u⟩ := p
    unfold bput
    by_cases h : k = s
    · rw [if_pos h]
      unfold bget
      by_cases h2 : s = t
      · rw [if_pos h2, if_pos (h.trans h2)]
      · have h3 : ¬ k = t := fun e => h2 (h.symm.trans e)
        rw [if_neg h2, if_neg h3, if_neg h3]
    · rw [if_neg h]
      unfold bget
      rw [ih]
      by_cases h2 : k = t
      · have h3 : ¬ s = t := fun e => h (h2.trans e.symm)
        rw [if_pos h2, if_neg h3, if_pos h2]
      · rw [if_neg h2, if_neg h2]
theorem i64ok_wf {n : Int} (h : i64ok n) : (Lit.int .i64 n).wf = true := by
  obtain ⟨h1, h2⟩ := h
  have e1 : IntKind.i64.min = -9223372036854775808 := by decide
  have e2 : IntKind.i64.max = 9223372036854775807 := by decide
  simp only [Lit.wf, decide_eq_true_eq, e1, e2]
  simp [e1, e2]
  omega
/-! ### what is owned -/
def BReads (D : DM) (m : BMap) : Prop := (∀ s : Int, Maps.has D (.int .i64 s) = (bget m s).isSome) ∧ (∀ (s : Int) (v : Bool) (z : DM), bget m s = some v → D.atKey (.int .i64 s) z = .lit (.bool v)) ∧ Maps.size D = m.length
theorem isKeyLit_int (n : Int) : WideAt.IsKeyLit (.int .i64 n) := by
  simp [WideAt.IsKeyLit]
theorem BReads.put {D : DM} {m : BMap} (h : BReads D m) (ht : Maps.Tidy D) (s : Int) (v : Bool) : BReads (D.put (.int .i64 s) (.lit (.bool v))) (bput m s v) := by
  obtain ⟨h1, h2, h3⟩ := h
  refine ⟨fun t => ?_, fun t u z ht2 => ?_, ?_⟩
  · rw [bget_put]
    by_cases e : s = t
    · subst e
      rw [if_pos rfl, Maps.has_put_same ht.isMap (isKeyLit_int _)]
      rfl
    · rw [if_neg e, Maps.has_put_other (fun he => e (by injection he with _ he; first | exact he.symm | exact he)), h1]
  · rw [bget_put] at ht2
    by_cases e : s = t
    · subst e
      rw [if_pos rfl] at ht2
      cases ht2
      rw [Maps.atKey_put_same ht.isMap (isKeyLit_int _)]
    · rw [if_neg e] at ht2
      rw [Maps.atKey_put_other (fun he => e (by injection he with _ he; first | exact he.symm | exact he))]
      exact h2 t u z ht2
  · rw [Maps.size_put ht, h1, bput_length, h3]
section
variable {P : Program} {ρ : Operand → Value} {o : Oper} {w w0 : World} {s : PHeap} {H : List Res} {K : Value → World → Prop} {T : TypeId} {k e : TypeId} {b : Nat} {m : BMap}
end
end Go.Pw
