/- -/
import Derived.Test.YteiainhbhaodoaaGreatL10
set_option linter.unusedVariables false
set_option linter.unusedSimpArgs false
namespace Go.Pw
section
variable {P : Program} {ρ : Operand → Value} {o : Oper} {w w0 : World} {s : PHeap} {H : List Res} {K : Value → World → Prop} {T : TypeId}
theorem QgL {α : Type} {E : Enc α} {y : α} {b off : Nat} (hT : Qan P T = some (E.agg, E.sz)) (h : At s b off E y) :
  ∃ v, E.val s v y ∧ ∀ {w0 w' : World} {s' : PHeap} {H' : List Res}, PHeap.le s s' → St w0 s' H' w' → (Instr.loadAt T (.pointer (some ⟨b, off, none⟩))).run P w' = .ok v w' := by
 obtain ⟨c, Te, fz, h1, h2⟩ := h
 have hlen := E.len h2
 have hcell : ∀ {w0 w' : World} {s' : PHeap} {H' : List Res}, PHeap.le s s' → St w0 s' H' w' → ∀ j v, ((c.toList.drop off).take E.sz)[j]? = some v → w'.cell? ((⟨b, off, none⟩ : Addr).add j) = some v := by
  intro w0 w' s' H' hl hS j v hv
  rw [Addr.add_lit, QbV hS (hl _ _ h1)]
  rw [List.getElem?_take] at hv
  split at hv
  ·rw [List.getElem?_drop] at hv
   simpa using hv
  ·cases hv
 cases hag : E.agg with
 | true =>
  refine ⟨.agg ((c.toList.drop off).take E.sz).toArray, ?_, fun {w0 w' s' H'} hl hS => ?_⟩
  ·unfold Enc.val
   rw [if_pos hag]
   exact ⟨_, Z, by simpa using h2⟩
  ·have hrun := Ya (P := P) (w := w') (a := ⟨b, off, none⟩) (cs := (c.toList.drop off).take E.sz) (by rw [hlen, ← hag]; exact hT) (hcell hl hS)
   simp only [Instr.loadAt, Instr.sureAddr, Sem.run_bind, Sem.run_pure, Result.andThen_ok, hrun]
 | false =>
  have h1' := E.single hag
  rw [h1'] at h2 hlen
  obtain ⟨v, hv⟩ : ∃ v, (c.toList.drop off).take 1 = [v] := by
   match hq : (c.toList.drop off).take 1, hlen with
   | [v], _ => exact ⟨v, rfl⟩
  refine ⟨v, ?_, fun {w0 w' s' H'} hl hS => ?_⟩
  ·unfold Enc.val
   rw [if_neg (by simp [hag])]
   rw [← hv]; exact h2
  ·have hc0 := hcell hl hS 0 v (by rw [h1', hv]; rfl)
   have hc0' : w'.cell? (⟨b, off, none⟩ : Addr) = some v := by simpa [Addr.add] using hc0
   have hrun := KZ (P := P) (w := w') (T := T) (n := E.sz) (by rw [← hag]; exact hT) hc0'
   simp only [Instr.loadAt, Instr.sureAddr, Sem.run_bind, Sem.run_pure, Result.andThen_ok, hrun]
theorem QcV {α : Type} {E : Enc α} {y : α} {x : Operand} {b off n : Nat} (hS : St w0 s H w) (hT : Qan P T = some (E.agg, E.sz)) (ho : o.op = .load T x) (hx : ρ x = .pointer (some ⟨b, off, none⟩)) (hn : off = n)
  (h : At s b n E y) (hk : ∀ v, E.val s v y → (∀ {w0 w' : World} {s' : PHeap} {H' : List Res}, PHeap.le s s' → St w0 s' H' w' → (Instr.loadAt T (.pointer (some ⟨b, off, none⟩))).run P w' = .ok v w') → K v w) : Exec P ρ o w K := by
 subst hn
 obtain ⟨v, h1, h2⟩ := QgL (P := P) hT h
 refine .of_run (v := v) ?_ (hk v h1 h2)
 unfold execOp
 simp only [ho, hx, Sem.run_bind, h2 (Zv _) hS, Result.andThen_ok, Sem.run_pure]
theorem QcU {x : Operand} {u v : Value} (ho : o.op = .load T x) (hx : ρ x = u) (h : (Instr.loadAt T u).run P w = .ok v w) (hk : K v w) : Exec P ρ o w K := by
 refine .of_run (v := v) ?_ hk
 unfold execOp
 simp only [ho, hx, Sem.run_bind, h, Result.andThen_ok, Sem.run_pure]
end
end Go.Pw
