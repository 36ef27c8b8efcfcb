/- -/
import Derived.Test.YtpjojkomdndamaaGreatDoorL12
namespace Go.Pw
section
variable {P : Program} {ρ : Operand → Value} {o : Oper} {w : World} {K : Value → World → Prop} {T T' E : TypeId} {x : Operand} {a : Option Addr} {n c : Nat}
theorem QdV (hT : P.underlying T = some (.slice E)) (ho : o.op = .binOp .neq T x (.const (.slice none 0 0)) T') (hx : ρ x = .slice a n c) (hc : ρ (.const (.slice none 0 0)) = .slice none 0 0) (hk : K (.bool a.isSome) w) : Exec P ρ o w K :=
 Qas (op := .neq) (a := .slice a n c) (b := .slice none 0 0) ho hx hc (by simp [eqGuard]) (by simp only [binOp]; cases a <;> simp [Qbu w T E _ n c 0 0 hT]) hk
end
theorem Y3 {e : Option Int} (h : e.isSome = true) : e.isNone = false := by cases e <;> simp_all
theorem Qar {e : Option Int} (h : e.isNone = true) : e.isSome = false := by cases e <;> simp_all
end Go.Pw
