/- -/
import Derived.Test.YteiainhbhaodoaaGreatLA
set_option linter.unusedVariables false
theorem Go.Calls.r {P : Go.Program} {f : Go.FuncId} {args : Array Go.Value} {w : Go.World} {R : Go.Ending → Go.World → Prop} (h : Go.Calls P f args w R) : Go.Calls P f args w R := h
namespace Go.Pw
def QeR (P : Program) (f : Nat) : Bool := match P.funcs[f]? with
 | some fn => !fn.body.isNone && !(fn.name == "runtime.NumGoroutine")
 | none => false
def Qkw (n : Nat) (bad : List Nat) (f : Nat) : Bool := Nat.blt f n && !bad.contains f
def QfC (P : Program) (n : Nat) (bad : List Nat) : Bool := (List.range n).all fun f => bad.contains f || QeR P f
theorem Qh3 {P : Program} {n : Nat} {bad : List Nat} (hall : QfC P n bad = true) {ρ : Operand → Value} {o : Oper} {w : World} {K : Value → World → Prop} {Q : Value → World → Prop} {f : FuncId} {args : List Operand} {ts : Array TypeId} {vs : List Value}
  (ho : o.op = .call { callee := .value (.func f), args := args.toArray, argTypes := ts }) (hc : ρ (.func f) = .func (.func f) #[] #[]) (hlt : Qkw n bad f = true) (hargs : List.map ρ args = vs)
  (h : Calls P f vs.toArray w fun e w' => ∃ v, e = .returned v ∧ Q v w') (hk : ∀ v w', Q v w' → K v w') : Exec P ρ o w K := by
 have h1 : QeR P f = true := by
  unfold Qkw at hlt
  simp only [Bool.and_eq_true, Bool.not_eq_true'] at hlt
  have := List.all_eq_true.1 hall f (List.mem_range.2 (by simpa using hlt.1))
  rw [hlt.2, Bool.false_or] at this
  exact this
 unfold QeR at h1
 split at h1
 ·rename_i fn hf
  simp only [Bool.and_eq_true, Bool.not_eq_true'] at h1
  exact Exec.call ho hc hf h1.1 h1.2 hargs (h.mono fun e w' ⟨v, e1, e2⟩ => ⟨v, e1, hk v w' e2⟩)
 ·cases h1
end Go.Pw
