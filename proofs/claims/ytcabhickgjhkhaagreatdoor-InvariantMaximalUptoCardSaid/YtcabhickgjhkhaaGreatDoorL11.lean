/-
  My walk's base, part 12: structs of integers that are compared.
-/
import Derived.Test.YtcabhickgjhkhaaGreatDoorL10
import Derived.ChangeKeysEq
set_option linter.unusedSimpArgs false
namespace Go.Pw
def iv (a : Int) : Value := .int .i64 a
section
variable {P : Program} {ρ : Operand → Value} {o : Oper} {w : World} {K : Value → World → Prop} {T T' : TypeId} {x y : Operand}
end
/-! ### results that lie in cells -/
def RR1 (P : Program) (f : Fr) (w : World) : ResultVar → Value → Prop
  | .tmp t, v => v = f t
  | .cell p ty, v => ∃ b off, f p = .pointer (some ⟨b, off, none⟩) ∧ (loadVar ty ⟨b, off, none⟩).run P w = .ok v w
theorem cellRes {P : Program} {w0 w : World} {s : PHeap} {H : List Res} {b : Nat} {Tb ty : TypeId} {cs : List Value} (hS : St w0 s (.box b Tb cs :: H) w) (hT : tyAgg P ty = some (true, cs.length)) : (loadVar ty ⟨b, 0, none⟩).run P w = .ok (.agg cs.toArray) w := by
  refine run_loadVar_agg hT ?_
  intro j v hj
  rw [Addr.add_lit]
  simp [World.cell?, hS.box_heap, hj]
section
variable {P : Program} {fn : Func} {f : Fr} {w : World}
def resOne (tmps : Array Value) : ResultVar → Sem Value
  | .tmp t => pure (tmps.getD t undef)
  | .cell a t => do loadVar t (← asAddr (tmps.getD a undef))
theorem resOne_run {N : Nat} {a : Act} (ha : Fits N a f) {r : ResultVar} {v : Value} (h : RR1 P f w r v) : (resOne a.tmps r).run P w = .ok v w := by
  cases r with
  | tmp t => simp only [RR1] at h; simp only [resOne, Sem.run_pure, ha.get, h]
  | cell p ty =>
    obtain ⟨b, off, h1, h2⟩ := h
    simp only [resOne, ha.get, h1, asAddr, Sem.run_bind, Sem.run_pure, Result.andThen_ok, h2]
theorem results_eq (tmps : Array Value) : results fn tmps = (do
    let vs ← fn.results.mapM (resOne tmps)
    pure (if h : vs.size = 1 then vs[0] else .tuple vs)) := by
  unfold results resOne
  rfl
theorem retG1 {r1 : ResultVar} {v1 : Value} (h : fn.results = #[r1]) (h1 : RR1 P f w r1 v1) : resRead P fn f w v1 := by
  intro a ha
  rw [results_eq, h]
  simp [Sem.run_bind, resOne_run ha h1]
theorem retG2 {r1 r2 : ResultVar} {v1 v2 : Value} (h : fn.results = #[r1, r2]) (h1 : RR1 P f w r1 v1) (h2 : RR1 P f w r2 v2) : resRead P fn f w (.tuple #[v1, v2]) := by
  intro a ha
  rw [results_eq, h]
  simp [Sem.run_bind, resOne_run ha h1, resOne_run ha h2]
theorem retG0 (h : fn.results = #[]) : resRead P fn f w (.tuple #[]) := by
  intro a ha
  rw [results_eq, h]
  simp [Sem.run_bind]
end
end Go.Pw
