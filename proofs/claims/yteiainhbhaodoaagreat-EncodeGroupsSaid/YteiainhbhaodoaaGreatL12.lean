/- -/
import Derived.Test.YteiainhbhaodoaaGreatL11
import Derived.Test.YteiainhbhaodoaaGreatL9
import Derived.ArgAppend
set_option linter.unusedSimpArgs false
namespace Go.Pw
section
variable {P : Program} {ρ : Operand → Value} {o : Oper} {w w0 : World} {s : PHeap} {H : List Res} {K : Value → World → Prop} {T : TypeId}
/-! ### rows -/
/-! ### queues -/
section
variable {α : Type} {E : Enc α} {Te : TypeId} {v : Value} {xs : List α}
end
end
theorem Qfp {P : Program} {ρ : Operand → Value} {o : Oper} {w : World} {K : Value → World → Prop} {c : Operand} {f : FuncId} {fn : Func} {args : List Operand} {ts : Array TypeId} {vs : List Value} (ho : o.op = .call { callee := .value c, args := args.toArray, argTypes := ts }) (hc : ρ c = .func (.func f) #[] #[])
  (hf : P.funcs[f]? = some fn) (hb : fn.body.isNone = false) (hn : (fn.name == "runtime.NumGoroutine") = false) (hargs : List.map ρ args = vs)
  (h : Calls P f vs.toArray w fun e w' => ∃ v, e = .returned v ∧ K v w') : Exec P ρ o w K :=
 Qfo ho hc hf hb hn hargs (by simpa using h)
theorem Qft {P : Program} {ρ : Operand → Value} {o : Oper} {w : World} {K : Value → World → Prop} {T T' : TypeId} {x y : Operand} {k k' : IntKind} {a : Int} {n : Nat} (hb : k.bits = 64) (hn : n < 64) (ho : o.op = .binOp .shr T x y T') (hx : ρ x = .int k a) (hy : ρ y = .int k' (n : Int)) (hk : K (.int k (a.fdiv (2 ^ n))) w) : Exec P ρ o w K := by
 refine .of_run (v := .int k (a.fdiv (2 ^ n))) ?_ hk
 unfold execOp
 simp only [ho, hx, hy]
 have h0 : ¬ ((n : Int) < 0) := by omega
 have h1 : min n 64 = n := by omega
 simp [eqGuard, binOp, Op.shift, h0, hb, h1]
end Go.Pw
