/-
  My walk's base, part 16: strings put together.
-/
import Derived.Test.YtcabhickgjhkhaaGreatDoorL14
set_option linter.unusedSimpArgs false
namespace Go.Pw
/-- 'a + b' -/
def cat (a b : ByteArray) : Option ByteArray := if a.size + b.size ≤ 9223372036854775807 then some (a ++ b) else none
section
variable {P : Program} {ρ : Operand → Value} {o : Oper} {w w0 : World} {s : PHeap} {H : List Res} {K : Value → World → Prop} {T T' : TypeId} {x y : Operand} {a b c : ByteArray}
theorem Exec.str_add (ho : o.op = .binOp .add T x y T') (hx : ρ x = .string a) (hy : ρ y = .string b) (hc : cat a b = some c) (hk : K (.string c) w) : Exec P ρ o w K := by
  unfold cat at hc
  split at hc
  · rename_i h
    cases hc
    refine exec_bin (op := .add) (a := .string a) (b := .string b) ho hx hy (by simp [eqGuard]) ?_ hk
    have h2 : ¬ (IntKind.i64.max < (a.size : Int) + (b.size : Int)) := by
      have e : IntKind.i64.max = 9223372036854775807 := by decide
      rw [e]; omega
    simp [go_sem, Op.stringOp, h2]
    omega
  · cases hc
end
end Go.Pw
