/-
  My walk's base, part 34: the order of strings.
-/
import Derived.Test.YtkfcbmecmdpilaaL3
set_option linter.unusedVariables false
namespace Go.Pw
/-- 'a < b' -/
def sLt (a b : ByteArray) : Bool := Op.bytesLess a.toList b.toList
section
variable {P : Program} {ρ : Operand → Value} {o : Oper} {w : World} {K : Value → World → Prop} {T T' : TypeId} {x y : Operand} {a b : ByteArray}
theorem Exec.str_lss (ho : o.op = .binOp .lss T x y T') (hx : ρ x = .string a) (hy : ρ y = .string b) (hk : K (.bool (sLt a b)) w) : Exec P ρ o w K :=
  exec_bin (op := .lss) (a := .string a) (b := .string b) ho hx hy (by simp [eqGuard]) (by simp [go_sem, sLt]) hk
theorem Exec.str_gtr (ho : o.op = .binOp .gtr T x y T') (hx : ρ x = .string a) (hy : ρ y = .string b) (hk : K (.bool (!(sLt a b || decide (a = b)))) w) : Exec P ρ o w K :=
  exec_bin (op := .gtr) (a := .string a) (b := .string b) ho hx hy (by simp [eqGuard]) (by rw [← str_beq]; show Sem.run P (Op.stringOp .gtr a b) w = _; unfold Op.stringOp; simp only [sLt]; rfl) hk
end
theorem bytesLess_irrefl : ∀ l : List UInt8, Op.bytesLess l l = false
  | [] => rfl
  | a :: l => by
    unfold Op.bytesLess
    rw [bytesLess_irrefl l]
    simp
theorem sLt_irrefl (a : ByteArray) : sLt a a = false := bytesLess_irrefl _
end Go.Pw
