/-
  My walk's base, part 36: parts of slices that stay, with what a second run gives.
-/
import Derived.Test.YtkfcbmecmdpilaaL9
import Derived.Test.YtkfcbmecmdpilaaL10
set_option linter.unusedVariables false
namespace Go.Pw
section
variable {P : Program} {ρ : Operand → Value} {o : Oper} {w w0 : World} {K : Value → World → Prop} {T : TypeId} {s : PHeap} {H : List Res}
/-- 'x[:r]' -/
theorem Exec.slice_toR {α : Type} {E : Enc α} {xs ys : List α} {x hi : Operand} {v : Value} {k : IntKind} {r : Int} {e by_ : Nat} (hT : tySlice P T = some (e, E.sz, by_)) (ho : o.op = .slice T x none (some hi) none) (hx : ρ x = v) (hh : ρ hi = .int k r)
    (h : SliceRep E s v xs) (hy : Go.Pw.cut xs 0 r = some ys) (hk : ∀ u, SliceRep E s u ys → (∀ {ρ' : Operand → Value} {w' : World}, ρ' x = v → ρ' hi = .int k r → Exec P ρ' o w' fun v' w'' => w'' = w' ∧ v' = u) → K u w) : Exec P ρ o w K := by
  obtain ⟨_, h0, h1, rfl⟩ := cut_some hy
  obtain ⟨i, hu, hi', hs, _⟩ := tySlice_parts hT
  obtain ⟨a, c, hv0⟩ := h.shape
  subst hv0
  have hcap : xs.length ≤ c := by
    rcases h with ⟨hv, rfl⟩ | ⟨a', cap', hv, rfl⟩ | ⟨b, off, cap', c', Te, fz, cells, hv, h1, _⟩
    · simp
    · simp
    · cases hv; exact h1
  have hc := h.cut (l := 0) (r := r.toNat) (Nat.zero_le _) (by omega)
  have run : ∀ {ρ' : Operand → Value} {w' : World} {K' : Value → World → Prop}, ρ' x = .slice a xs.length c → ρ' hi = .int k r → K' (.slice (if c = 0 then a else a.map (·.add (0 * E.sz))) (r.toNat - 0) (c - 0)) w' → Exec P ρ' o w' K' := by
    intro ρ' w' K' hx' hh' hK
    refine .of_run (v := .slice (if c = 0 then a else a.map (·.add (0 * E.sz))) (r.toNat - 0) (c - 0)) ?_ hK
    unfold execOp
    simp only [ho, hx', hh', Option.map_none, Option.map_some, Instr.sliceAt, Instr.slice, Instr.sliceBounds, Sem.run_bind, run_underlying hu, Result.andThen_ok, Sem.run_pure, run_bound (P := P) (w := w') (k := k) h0 (show r ≤ (c : Int) by omega)]
    simp [sizeOf, typeInfo, hi', hs]
  exact run hx hh (hk _ (by simpa using hc) fun {ρ' w'} hx' hh' => run hx' hh' ⟨rfl, rfl⟩)
end
end Go.Pw
