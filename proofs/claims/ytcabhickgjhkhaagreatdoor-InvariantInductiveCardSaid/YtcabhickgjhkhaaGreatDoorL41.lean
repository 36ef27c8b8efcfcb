/-
  My walk's base, part 41: a loop over a map's keys: the order is the world's; what is computed must be the same in each.
-/
import Derived.Test.YtcabhickgjhkhaaGreatDoorL40
set_option linter.unusedSimpArgs false
set_option linter.unusedVariables false
namespace Go.Pw
/-! ### the pure words -/
open Classical in
/-- What comes out in whatever order the keys are taken. -/
noncomputable def rangeK {R : Type} (keys : List Int) (F : List Int → Option R) : Option R := if h : ∃ r, ∀ ord : List Int, ord.Perm keys → F ord = some r then some (Classical.choose h) else none
theorem rangeK_some {R : Type} {keys : List Int} {F : List Int → Option R} {r : R} (h : rangeK keys F = some r) : ∀ ord : List Int, ord.Perm keys → F ord = some r := by
  unfold rangeK at h
  split at h
  · rename_i hh
    cases h
    exact Classical.choose_spec hh
  · cases h
theorem rangeK_eq {R : Type} {keys : List Int} {F : List Int → Option R} {r : R} (h : ∀ ord : List Int, ord.Perm keys → F ord = some r) : rangeK keys F = some r := by
  unfold rangeK
  have hh : ∃ r, ∀ ord : List Int, ord.Perm keys → F ord = some r := ⟨r, h⟩
  rw [dif_pos hh]
  have := Classical.choose_spec hh keys (.refl _)
  rw [h keys (.refl _)] at this
  exact this.symm
theorem perm_rest : ∀ {l keys : List Int}, l.Nodup → (∀ x ∈ l, x ∈ keys) → ∃ rest, (l ++ rest).Perm keys
  | [], keys, _, _ => ⟨keys, by simp⟩
  | x :: l, keys, hn, hs => by
    obtain ⟨h1, h2⟩ := List.nodup_cons.1 hn
    have hp := List.perm_cons_erase (hs x (by simp))
    obtain ⟨rest, hr⟩ := perm_rest (l := l) (keys := keys.erase x) h2 fun y hy => by
      have hne : y ≠ x := fun e => h1 (e ▸ hy)
      exact (List.mem_erase_of_ne hne).2 (hs y (by simp [hy]))
    exact ⟨rest, (List.Perm.cons x hr).trans hp.symm⟩
theorem perm_all {l keys : List Int} (hn : l.Nodup) (hk : keys.Nodup) (hs : ∀ x ∈ l, x ∈ keys) (ha : ∀ x ∈ keys, x ∈ l) : l.Perm keys := by
  obtain ⟨rest, hr⟩ := perm_rest hn hs
  have hnd := hr.nodup_iff.2 hk
  have : rest = [] := by
    cases rest with
    | nil => rfl
    | cons y rest =>
      have hy := ha y (hr.mem_iff.1 (by simp))
      have := (List.nodup_append.1 hnd).2.2 y hy y (by simp)
      exact absurd rfl this
  subst this
  simpa using hr
/-! ### the loop's rule -/
section
variable {P : Program} {N : Nat} {Q : Post} {f : Fr} {w : World}
end
/-! ### a map that is being ranged over -/
section
variable {α : Type}
variable {P : Program} {ρ : Operand → Value} {o : Oper} {w w0 : World} {s : PHeap} {H : List Res} {K : Value → World → Prop} {T k e Te : TypeId} {b r : Nat} {m : VMap} {E : Enc α} {M : List (Int × List α)} {done : List Int}
theorem Exec.entry {it : Operand} {v : Value} (ho : o.op = .entry it) (hit : ρ it = .pointer (some ⟨r, 0, none⟩)) (hen : (Instr.entry (.pointer (some ⟨r, 0, none⟩))).run P w = .ok v w) (hk : K v w) : Exec P ρ o w K := by
  refine .of_run (v := v) (w' := w) ?_ hk
  unfold execOp
  simp [ho, hit, hen, Result.andThen]
end
end Go.Pw
