/-
  My walk's base, part 13: rows that are made empty and grow; queues (a slice that loses its head and grows at its end).
-/
import Derived.Test.YtoofdhjblbnppaaGreatL11
import Derived.Test.YtoofdhjblbnppaaGreatL9
import Derived.ArgAppend
set_option linter.unusedSimpArgs false
namespace Go.Pw
section
variable {P : Program} {ρ : Operand → Value} {o : Oper} {w w0 : World} {s : PHeap} {H : List Res} {K : Value → World → Prop} {T : TypeId}
/-! ### rows -/
/-! ### queues -/
section
variable {α : Type} {E : Enc α} {Te : TypeId} {v : Value} {xs : List α}
end
end
theorem Exec.callf {P : Program} {ρ : Operand → Value} {o : Oper} {w : World} {K : Value → World → Prop} {c : Operand} {f : FuncId} {fn : Func} {args : List Operand} {ts : Array TypeId} {vs : List Value} (ho : o.op = .call { callee := .value c, args := args.toArray, argTypes := ts }) (hc : ρ c = .func (.func f) #[] #[])
    (hf : P.funcs[f]? = some fn) (hb : fn.body.isNone = false) (hn : (fn.name == "runtime.NumGoroutine") = false) (hargs : List.map ρ args = vs)
    (h : Calls P f vs.toArray w fun e w' => ∃ v, e = .returned v ∧ K v w') : Exec P ρ o w K :=
  Exec.callv ho hc hf hb hn hargs (by simpa using h)
end Go.Pw
