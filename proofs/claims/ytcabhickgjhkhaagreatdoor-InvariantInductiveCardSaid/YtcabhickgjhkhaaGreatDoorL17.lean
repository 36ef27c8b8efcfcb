/-
  My walk's base, part 18: a strings.Builder that the call owns.
-/
import Derived.Test.YtcabhickgjhkhaaGreatDoorL16
import Derived.Test.YtcabhickgjhkhaaGreatDoorL9
import Derived.Laws.Externs
set_option linter.unusedSimpArgs false
namespace Go.Pw
abbrev selfOr (b : Nat) (p : Value) : Prop := p = .pointer none ∨ p = .pointer (some ⟨b, 0, none⟩)
/-- A builder in a block of its own (T: its type, e: the bytes' type), that holds the bytes xs. -/
def Res.bld (T e : TypeId) (b : Nat) (xs : List Int) : Res where
  p := fun s w bs => ∃ pv v b2, bs = b :: b2 ∧ w.heap[b]? = some (.cells #[pv, v] T (0, 0)) ∧ selfOr b pv ∧ (Res.arr (encInt .u8) e v xs).p s w b2
  loc := by
    rintro s w w' bs ⟨pv, v, b2, rfl, h1, h2, h3⟩ hw
    exact ⟨pv, v, b2, rfl, by rw [hw b (by simp)]; exact h1, h2, (Res.arr _ _ _ _).loc h3 fun x hx => hw x (List.mem_cons_of_mem _ hx)⟩
  mono := fun l ⟨pv, v, b2, e, h1, h2, h3⟩ => ⟨pv, v, b2, e, h1, h2, (Res.arr _ _ _ _).mono l h3⟩
  lt := by
    rintro s w bs ⟨pv, v, b2, rfl, h1, h2, h3⟩ x hx
    rcases List.mem_cons.1 hx with rfl | hx
    · exact (Array.getElem?_eq_some_iff.1 h1).1
    · exact (Res.arr _ _ _ _).lt h3 x hx
section
variable {P : Program} {ρ : Operand → Value} {o : Oper} {w w0 : World} {s : PHeap} {H : List Res} {K : Value → World → Prop} {T e : TypeId} {b : Nat} {xs : List Int}
theorem St.bld_open (hS : St w0 s (.bld T e b xs :: H) w) : ∃ pv v, selfOr b pv ∧ St w0 s (.box b T [pv, v] :: .arr (encInt .u8) e v xs :: H) w := by
  obtain ⟨bs, hn, hs, b1, b2, e1, ⟨pv, v, b3, rfl, h1, h2, h3⟩, h4⟩ := hS.own
  subst e1
  refine ⟨pv, v, h2, hS.os, hS.tape, hS.output, hS.drawn, hS.size, hS.stay, _, hn, hs, [b], b3 ++ b2, rfl, ⟨rfl, h1⟩, b3, b2, rfl, h3, h4⟩
theorem St.bld_close {pv v : Value} (h : selfOr b pv) (hS : St w0 s (.box b T [pv, v] :: .arr (encInt .u8) e v xs :: H) w) : St w0 s (.bld T e b xs :: H) w := by
  obtain ⟨bs, hn, hs, b1, b2, e1, ⟨rfl, h1⟩, b3, b4, e2, h3, h4⟩ := hS.own
  subst e1; subst e2
  exact ⟨hS.os, hS.tape, hS.output, hS.drawn, hS.size, hS.stay, _, hn, hs, b :: b3, b4, rfl, ⟨pv, v, b3, rfl, h1, h, h3⟩, h4⟩
theorem St.arr_none {α : Type} {E : Enc α} {Te : TypeId} (hS : St w0 s H w) : St w0 s (.arr E Te (.slice none 0 0) [] :: H) w := by
  obtain ⟨bs, hn, hs, hb⟩ := hS.own
  exact ⟨hS.os, hS.tape, hS.output, hS.drawn, hS.size, hS.stay, bs, hn, hs, [], bs, rfl, ⟨[], rfl, World.ownsRow_nil _ _ _ _, rfl⟩, hb⟩
theorem St.box_shape {cs : List Value} (hS : St w0 s (.box b T cs :: H) w) : w.shape? b = some (T, cs.length) := by
  simp [World.shape?, hS.box_heap]
theorem Exec.to_unsafe {S D t : TypeId} {x : Operand} {cs : List Value} {off : Nat} {j : TypeInfo} (hS : St w0 s (.box b T cs :: H) w) (h1 : P.underlying S = some (.pointer t)) (h2 : P.underlying D = some .unsafePointer) (ht : P.info? t = some j) (hj : j.size ≠ 0) (hoff : off < cs.length)
    (ho : o.op = .convert S D x) (hx : ρ x = .pointer (some ⟨b, off, none⟩)) (hk : K (.pointer (some ⟨b, off, none⟩)) w) : Exec P ρ o w K := by
  have hrun := Lib.run_to_unsafe (P := P) w ⟨b, off, none⟩ h1 h2 ht hj hS.box_shape hoff
  refine .of_run (v := .pointer (some ⟨b, off, none⟩)) (w' := w) ?_ hk
  unfold execOp
  simp only [ho, hx, Sem.run_bind, hrun, Result.andThen_ok, Sem.run_pure]
theorem Exec.from_unsafe {S D u : TypeId} {x : Operand} {cs : List Value} {off : Nat} {j : TypeInfo} (hS : St w0 s (.box b T cs :: H) w) (h1 : P.underlying S = some .unsafePointer) (h2 : P.underlying D = some (.pointer u)) (hu : P.info? u = some j) (hl : liesAt P P.depth T (cs.length / P.cellsOf T) off u 1 = true)
    (ho : o.op = .convert S D x) (hx : ρ x = .pointer (some ⟨b, off, none⟩)) (hk : K (.pointer (some ⟨b, off, none⟩)) w) : Exec P ρ o w K := by
  have hrun := Lib.run_from_unsafe (P := P) w ⟨b, off, none⟩ h1 h2 hu hS.box_shape hl
  refine .of_run (v := .pointer (some ⟨b, off, none⟩)) (w' := w) ?_ hk
  unfold execOp
  simp only [ho, hx, Sem.run_bind, hrun, Result.andThen_ok, Sem.run_pure]
/-- A call of 'internal/abi.NoEscape'. -/
theorem Exec.no_escape {f : FuncId} {fn : Func} {x : Operand} {ts : Array TypeId} {v : Value} (ho : o.op = .call { callee := .value (.func f), args := #[x], argTypes := ts }) (hc : ρ (.func f) = .func (.func f) #[] #[]) (hf : P.funcs[f]? = some fn) (hname : (fn.name == "runtime.NumGoroutine") = false)
    (hb : fn.body.isNone = true) (hn : Extern.findNext fn = none) (he : Extern.find fn = some Extern.AbiNoEscape.same) (hx : ρ x = v) (hk : K v w) : Exec P ρ o w K := by
  have hrun := run_callFunc_extern hf hname hb hn he #[v] w
  rw [Lib.run_noEscape (P := P) w v] at hrun
  refine .of_run (v := v) (w' := w) ?_ hk
  unfold execOp
  simp only [ho, resolve, hc, Deferred.ofValue, invoke, Sem.run_bind, Sem.run_pure, Result.andThen_ok, List.map_toArray, List.map_cons, List.map_nil, hx]
  simpa using hrun
/-! ### parts of strings -/
end
end Go.Pw
