/-
  My walk's base, part 26: a slice against nil, unequal.
-/
import Derived.Test.YtdhfofhginfdnaaL12
namespace Go.Pw
section
variable {P : Program} {ρ : Operand → Value} {o : Oper} {w : World} {K : Value → World → Prop} {T T' E : TypeId} {x : Operand} {a : Option Addr} {n c : Nat}
theorem Exec.slice_neq_nil (hT : P.underlying T = some (.slice E)) (ho : o.op = .binOp .neq T x (.const (.slice none 0 0)) T') (hx : ρ x = .slice a n c) (hc : ρ (.const (.slice none 0 0)) = .slice none 0 0) (hk : K (.bool a.isSome) w) : Exec P ρ o w K :=
  exec_bin (op := .neq) (a := .slice a n c) (b := .slice none 0 0) ho hx hc (by simp [eqGuard]) (by simp only [binOp]; cases a <;> simp [run_equal_slice_nil w T E _ n c 0 0 hT]) hk
end
end Go.Pw
