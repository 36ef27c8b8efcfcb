/- -/
import Derived.Test.YtpjojkomdndamaaGreatDoorL12
namespace Go.Pw
section
variable {P : Program} {ρ : Operand → Value} {o : Oper} {w : World} {K : Value → World → Prop} {T T' E : TypeId} {x : Operand} {a : Option Addr} {n c : Nat}
end
theorem KN {e : Option Int} (h : e.isSome = true) : e.isNone = false := by cases e <;> simp_all
theorem YX {e : Option Int} (h : e.isNone = true) : e.isSome = false := by cases e <;> simp_all
end Go.Pw
