/-
  My walk's base, part 42: an error compared with one that is there.
-/
import Derived.Test.YthbgcahoknmmmaaGreatL3
set_option linter.unusedSimpArgs false
set_option linter.unusedVariables false
namespace Go.Pw
section
variable {P : Program} {ρ : Operand → Value} {o : Oper} {w : World} {K : Value → World → Prop} {T T' I : TypeId} {x y : Operand} {e : Option Int} {b : Int} {ms : Array (String × TypeId)}
/-- A type of errors that can be compared. -/
def tyErr (P : Program) (T : TypeId) : Prop := (P.info? T).map (·.comparable) = some true ∧ P.underlying T = some (.int .i64)
theorem run_equalIn_err (w : World) (d : Nat) (hI : P.underlying I = some (.interface ms)) (hT : tyErr P T) (e : Option Int) (b : Int) :
    (Op.equalIn (d + 2) I (errV T e) (errV T (some b))).run P w = .ok (decide (e = some b)) w := by
  obtain ⟨h1, h2⟩ := hT
  obtain ⟨i, hi, hc⟩ := Option.map_eq_some_iff.1 h1
  cases e with
  | none => simp [Op.equalIn, run_underlying hI, errV]
  | some a =>
    have hin : (Op.equalIn (d + 1) T (.int .i64 a) (.int .i64 b)).run P w = .ok (a == b) w := by
      simp [Op.equalIn, run_underlying h2]
    rw [Op.equalIn]
    simp [run_underlying hI, errV, typeInfo, hi, hc, hin, Result.andThen]
    by_cases c : a = b <;> simp [c]
theorem eqGuard_err2 (w : World) (op : BinOp) (I : TypeId) (x y : Operand) (e : Option Int) (b : Int) : (eqGuard op I x y (errV T e) (errV T (some b))).run P w = .ok () w := by
  cases op <;> cases e <;> simp [eqGuard, errV, go_sem]
theorem run_eql_err (w : World) (hI : P.underlying I = some (.interface ms)) (hT : tyErr P T) (e : Option Int) (b : Int) : (binOp .eql I (errV T e) (errV T (some b))).run P w = .ok (.bool (decide (e = some b))) w := by
  have h1 : (Op.equal I (errV T e) (errV T (some b))).run P w = .ok (decide (e = some b)) w := run_equalIn_err w 9998 hI hT e b
  have h2 : binOp .eql I (errV T e) (errV T (some b)) = (do pure (.bool (← Op.equal I (errV T e) (errV T (some b))))) := by cases e <;> rfl
  rw [h2, Sem.run_bind, h1]; rfl
theorem Exec.err_eql (hI : P.underlying I = some (.interface ms)) (hT : tyErr P T) (ho : o.op = .binOp .eql I x y T') (hx : ρ x = errV T e) (hy : ρ y = errV T (some b)) (hk : K (.bool (decide (e = some b))) w) : Exec P ρ o w K :=
  exec_bin (op := .eql) (a := errV T e) (b := errV T (some b)) ho hx hy (eqGuard_err2 w _ _ _ _ e b) (run_eql_err w hI hT e b) hk
end
end Go.Pw
