/-
  My walk's base, part 3: what each kind of operation does (no memory owned): arithmetic, tests, calls, results.
-/
import Derived.Test.YtcabhickgjhkhaaGreatDoorL2
set_option linter.unusedSimpArgs false
namespace Go.Pw
section
variable {P : Program} {ρ : Operand → Value} {o : Oper} {w : World} {K : Value → World → Prop}
theorem Zm {x : Operand} {v : Value} (ho : o.op = .move x) (hv : ρ x = v) (hk : K v w) : Exec P ρ o w K :=
  .of_run (v := v) (by simp [execOp, ho, hv, go_sem]) hk
theorem Zo {x : Operand} {v : Value} (ho : o.op = .assign x) (hv : ρ x = v) (hk : K v w) : Exec P ρ o w K :=
  .of_run (v := v) (by simp [execOp, ho, hv, go_sem]) hk
theorem Zs {c a b : Operand} {v : Value} (ho : o.op = .pick c a b) (hc : ρ c = .bool true) (hv : ρ a = v) (hk : K v w) : Exec P ρ o w K :=
  .of_run (v := v) (by simp [execOp, ho, hc, hv, go_sem, asBool]) hk
theorem Exec.pick_f {c a b : Operand} {v : Value} (ho : o.op = .pick c a b) (hc : ρ c = .bool false) (hv : ρ b = v) (hk : K v w) : Exec P ρ o w K :=
  .of_run (v := v) (by simp [execOp, ho, hc, hv, go_sem, asBool]) hk
theorem exec_bin {op : BinOp} {T T' : TypeId} {x y : Operand} {a b v : Value} (ho : o.op = .binOp op T x y T') (hx : ρ x = a) (hy : ρ y = b) (hg : (eqGuard op T x y a b).run P w = .ok () w) (h : (binOp op T a b).run P w = .ok v w) (hk : K v w) : Exec P ρ o w K := by
  refine .of_run (v := v) ?_ hk
  unfold execOp
  simp only [ho, hx, hy, Sem.run_bind, hg, Result.andThen_ok, h, Sem.run_pure]
theorem int_beq (a b : Int) : (a == b) = decide (a = b) := by
  by_cases h : a = b
  · subst h; simp
  · simp [h]
section ints
variable {T T' : TypeId} {x y : Operand} {k : IntKind} {a b : Int}
theorem run_bin {op : BinOp} {v : Value} (ho : o.op = .binOp op T x y T') (hx : ρ x = .int k a) (hy : ρ y = .int k b) (h : (binOp op T (.int k a) (.int k b)).run P w = .ok v w) : (execOp ρ o).run P w = .ok (.value v) w := by
  have hg : (eqGuard op T x y (.int k a) (.int k b)).run P w = .ok () w := by cases op <;> simp [eqGuard, go_sem]
  unfold execOp
  simp only [ho, hx, hy, Sem.run_bind, hg, Result.andThen_ok, h, Sem.run_pure]
theorem Zq (ho : o.op = .binOp .lss T x y T') (hx : ρ x = .int k a) (hy : ρ y = .int k b) (hk : K (.bool (decide (a < b))) w) : Exec P ρ o w K :=
  .of_run (run_bin ho hx hy (by simp [binOp, go_sem])) hk
theorem Exec.leq (ho : o.op = .binOp .leq T x y T') (hx : ρ x = .int k a) (hy : ρ y = .int k b) (hk : K (.bool (decide (a ≤ b))) w) : Exec P ρ o w K :=
  .of_run (run_bin ho hx hy (by simp [binOp, go_sem])) hk
theorem Exec.gtr (ho : o.op = .binOp .gtr T x y T') (hx : ρ x = .int k a) (hy : ρ y = .int k b) (hk : K (.bool (decide (b < a))) w) : Exec P ρ o w K :=
  .of_run (run_bin ho hx hy (by simp [binOp, go_sem])) hk
theorem Exec.geq (ho : o.op = .binOp .geq T x y T') (hx : ρ x = .int k a) (hy : ρ y = .int k b) (hk : K (.bool (decide (b ≤ a))) w) : Exec P ρ o w K :=
  .of_run (run_bin ho hx hy (by simp [binOp, go_sem])) hk
theorem Exec.eql (ho : o.op = .binOp .eql T x y T') (hx : ρ x = .int k a) (hy : ρ y = .int k b) (hk : K (.bool (decide (a = b))) w) : Exec P ρ o w K :=
  .of_run (run_bin ho hx hy (by simp [binOp, go_sem]; exact int_beq a b)) hk
theorem Exec.neq (ho : o.op = .binOp .neq T x y T') (hx : ρ x = .int k a) (hy : ρ y = .int k b) (hk : K (.bool (!decide (a = b))) w) : Exec P ρ o w K :=
  .of_run (run_bin ho hx hy (by simp [binOp, go_sem]; show (!(a == b)) = _; rw [int_beq])) hk
theorem Exec.add (ho : o.op = .binOp .add T x y T') (hx : ρ x = .int k a) (hy : ρ y = .int k b) (hk : K (.int k (k.wrap (a + b))) w) : Exec P ρ o w K :=
  .of_run (run_bin ho hx hy (by simp [binOp, go_sem])) hk
theorem Exec.sub (ho : o.op = .binOp .sub T x y T') (hx : ρ x = .int k a) (hy : ρ y = .int k b) (hk : K (.int k (k.wrap (a - b))) w) : Exec P ρ o w K :=
  .of_run (run_bin ho hx hy (by simp [binOp, go_sem])) hk
theorem Exec.neg (ho : o.op = .unOp .neg T x) (hx : ρ x = .int k a) (hk : K (.int k (k.wrap (0 - a))) w) : Exec P ρ o w K :=
  .of_run (by unfold execOp; simp only [ho, hx]; rfl) hk
end ints
theorem Exec.not {T : TypeId} {x : Operand} {b : Bool} (ho : o.op = .unOp .not T x) (hx : ρ x = .bool b) (hk : K (.bool (!b)) w) : Exec P ρ o w K :=
  .of_run (by unfold execOp; simp only [ho, hx]; rfl) hk
section strs
variable {T T' : TypeId} {x y : Operand} {a b : ByteArray}
theorem str_beq (a b : ByteArray) : (a.toList == b.toList) = decide (a = b) := by
  rw [ByteArray.toList_eq, ByteArray.toList_eq]
  by_cases h : a = b
  · subst h; simp
  · have : a.data.toList ≠ b.data.toList := fun e => h (by obtain ⟨⟨x⟩⟩ := a; obtain ⟨⟨y⟩⟩ := b; simp at e; rw [e])
    rw [decide_eq_false h]; exact beq_eq_false_iff_ne.2 this
theorem Exec.str_eql (ho : o.op = .binOp .eql T x y T') (hx : ρ x = .string a) (hy : ρ y = .string b) (hk : K (.bool (decide (a = b))) w) : Exec P ρ o w K :=
  exec_bin (op := .eql) (a := .string a) (b := .string b) ho hx hy (by simp [eqGuard]) (by rw [← str_beq]; simp [go_sem]) hk
theorem Exec.str_neq (ho : o.op = .binOp .neq T x y T') (hx : ρ x = .string a) (hy : ρ y = .string b) (hk : K (.bool (!decide (a = b))) w) : Exec P ρ o w K :=
  exec_bin (op := .neq) (a := .string a) (b := .string b) ho hx hy (by simp [eqGuard]) (by rw [← str_beq]; simp [go_sem]) hk
end strs
section bools
variable {T T' : TypeId} {x y : Operand} {a b : Bool}
end bools
section ptr
variable {T T' E : TypeId} {x y : Operand}
theorem Exec.ptr_eql_nil {p : Option Addr} (hT : P.underlying T = some (.pointer E)) (ho : o.op = .binOp .eql T x (.const (.pointer none)) T') (hx : ρ x = .pointer p) (hc : ρ (.const (.pointer none)) = .pointer none) (hk : K (.bool p.isNone) w) : Exec P ρ o w K := by
  refine .of_run ?_ hk
  have hp : P.pointee T = E := by simp [Program.pointee, hT]
  simp [execOp, ho, hx, hc, eqGuard, go_sem, run_eql_pointer_nil (P := P) w T p (by rw [hp]; exact hT)]
end ptr
section slc
variable {T T' E : TypeId} {x y : Operand} {a : Option Addr} {n c : Nat}
theorem run_equalIn_slice_nil (w : World) (d : Nat) (t e : TypeId) (a : Option Addr) (n c n' c' : Nat) (h : P.underlying t = some (.slice e)) :
    (Op.equalIn (d + 1) t (.slice a n c) (.slice none n' c')).run P w = .ok a.isNone w := by
  cases a <;> simp [Op.equalIn, run_underlying h]
theorem run_equal_slice_nil (w : World) (t e : TypeId) (a : Option Addr) (n c n' c' : Nat) (h : P.underlying t = some (.slice e)) :
    (Op.equal t (.slice a n c) (.slice none n' c')).run P w = .ok a.isNone w := run_equalIn_slice_nil w 9999 t e a n c n' c' h
theorem Exec.slice_eql_nil (hT : P.underlying T = some (.slice E)) (ho : o.op = .binOp .eql T x (.const (.slice none 0 0)) T') (hx : ρ x = .slice a n c) (hc : ρ (.const (.slice none 0 0)) = .slice none 0 0) (hk : K (.bool a.isNone) w) : Exec P ρ o w K :=
  exec_bin (op := .eql) (a := .slice a n c) (b := .slice none 0 0) ho hx hc (by simp [eqGuard]) (by simp only [binOp]; simp [run_equal_slice_nil w T E a n c 0 0 hT]) hk
theorem Exec.len_slice (hT : P.underlying T = some (.slice E)) (ho : o.op = .call { callee := .builtin .len, args := #[x], argTypes := #[T] }) (hx : ρ x = .slice a n c) (hk : K (.int .i64 (n : Int)) w) : Exec P ρ o w K := by
  refine .of_run ?_ hk
  simp [execOp, ho, hx, resolve, invoke, builtin, go_sem, Builtin.len_, run_underlying hT, goInt]
theorem Exec.len_str {s : ByteArray} (hT : P.underlying T = some .string) (ho : o.op = .call { callee := .builtin .len, args := #[x], argTypes := #[T] }) (hx : ρ x = .string s) (hk : K (.int .i64 (s.size : Int)) w) : Exec P ρ o w K := by
  refine .of_run ?_ hk
  simp [execOp, ho, hx, resolve, invoke, builtin, go_sem, Builtin.len_, run_underlying hT, goInt]
end slc
theorem Exec.convert_int {S T : TypeId} {x : Operand} {k k' : IntKind} {n : Int} (hS : (P.underlying S).isSome = true) (hT : P.underlying T = some (.int k)) (ho : o.op = .convert S T x) (hx : ρ x = .int k' n) (hk : K (.int k (k.wrap n)) w) : Exec P ρ o w K := by
  refine .of_run ?_ hk
  obtain ⟨d, hd⟩ := Option.isSome_iff_exists.1 hS
  simp [execOp, ho, hx, convert, go_sem, run_underlying hd, run_underlying hT, Conv.intToInt]
theorem Exec.makeInterface {T : TypeId} {x : Operand} {v : Value} (hT : P.concrete T = true) (ho : o.op = .makeInterface T x) (hx : ρ x = v) (hk : K (.iface T v) w) : Exec P ρ o w K :=
  .of_run (by unfold execOp; simp only [ho, hx, Sem.run_bind, run_makeInterface (P := P) w T v hT, Result.andThen_ok, Sem.run_pure]) hk
theorem Exec.extract {t : Operand} {i : Nat} {vs : Array Value} {v : Value} (ho : o.op = .extract t i) (ht : ρ t = .tuple vs) (hv : vs[i]? = some v) (hk : K v w) : Exec P ρ o w K :=
  .of_run (by simp [execOp, ho, ht, hv, Instr.extract, go_sem]) hk
theorem Exec.nilCheck_ptr {x : Operand} {a : Addr} (ho : o.op = .nilCheck x) (hx : ρ x = .pointer (some a)) (hk : K (.pointer (some a)) w) : Exec P ρ o w K :=
  .of_run (by simp [execOp, ho, hx, go_sem]) hk
/-! ### errors -/
section errs
variable {T T' I : TypeId} {x y : Operand} {e : Option Int} {ms : Array (String × TypeId)}
theorem run_equalIn_err_nil (w : World) (d : Nat) (I : TypeId) (h : P.underlying I = some (.interface ms)) (e : Option Int) :
    (Op.equalIn (d + 1) I (errV T e) .nilIface).run P w = .ok e.isNone w := by
  cases e <;> simp [Op.equalIn, run_underlying h, errV]
theorem run_equal_err_nil (w : World) (I : TypeId) (h : P.underlying I = some (.interface ms)) (e : Option Int) :
    (Op.equal I (errV T e) .nilIface).run P w = .ok e.isNone w := run_equalIn_err_nil w 9999 I h e
theorem eqGuard_err (w : World) (op : BinOp) (I : TypeId) (x : Operand) (c : Value) (e : Option Int) : (eqGuard op I x (.const c) (errV T e) .nilIface).run P w = .ok () w := by
  cases op <;> cases e <;> cases x <;> simp [eqGuard, errV, go_sem]
theorem run_eql_err_nil (w : World) (I : TypeId) (h : P.underlying I = some (.interface ms)) (e : Option Int) : (binOp .eql I (errV T e) .nilIface).run P w = .ok (.bool e.isNone) w := by
  have h1 := run_equal_err_nil (T := T) w I h e
  have h2 : binOp .eql I (errV T e) .nilIface = (do pure (.bool (← Op.equal I (errV T e) .nilIface))) := by cases e <;> rfl
  rw [h2, Sem.run_bind, h1]; rfl
theorem run_neq_err_nil (w : World) (I : TypeId) (h : P.underlying I = some (.interface ms)) (e : Option Int) : (binOp .neq I (errV T e) .nilIface).run P w = .ok (.bool e.isSome) w := by
  have h1 := run_equal_err_nil (T := T) w I h e
  have h2 : binOp .neq I (errV T e) .nilIface = (do pure (.bool (!(← Op.equal I (errV T e) .nilIface)))) := by cases e <;> rfl
  rw [h2, Sem.run_bind, h1]; cases e <;> rfl
theorem Exec.err_eql_nil (hI : P.underlying I = some (.interface ms)) (ho : o.op = .binOp .eql I x (.const .nilIface) T') (hx : ρ x = errV T e) (hc : ρ (.const .nilIface) = .nilIface) (hk : K (.bool e.isNone) w) : Exec P ρ o w K :=
  exec_bin (op := .eql) (a := errV T e) (b := .nilIface) ho hx hc (eqGuard_err w _ _ _ _ e) (run_eql_err_nil w I hI e) hk
theorem Exec.err_neq_nil (hI : P.underlying I = some (.interface ms)) (ho : o.op = .binOp .neq I x (.const .nilIface) T') (hx : ρ x = errV T e) (hc : ρ (.const .nilIface) = .nilIface) (hk : K (.bool e.isSome) w) : Exec P ρ o w K :=
  exec_bin (op := .neq) (a := errV T e) (b := .nilIface) ho hx hc (eqGuard_err w _ _ _ _ e) (run_neq_err_nil w I hI e) hk
/-- 'n, ok := e.(api.Errno)' -/
theorem Exec.err_assert (hT : P.underlying T = some (.int .i64)) (hz : (P.info? T).map (·.zero) = some (some (.int .i64 0))) (ho : o.op = .typeAssert x I T true) (hx : ρ x = errV T e) (hk : K (.tuple #[.int .i64 (e.getD 0), .bool e.isSome]) w) : Exec P ρ o w K := by
  refine .of_run ?_ hk
  obtain ⟨i, hi, hz'⟩ := Option.map_eq_some_iff.1 hz
  cases e <;> simp [execOp, ho, hx, errV, go_sem, Instr.typeAssert, run_underlying hT, zeroValue, typeInfo, hi, hz']
end errs
/-! ### calls -/
theorem run_call_aux {c : Operand} {f : FuncId} {fn : Func} {args : List Operand} {ts : Array TypeId} {vs : List Value} {first cap : Array Value} (ho : o.op = .call { callee := .value c, args := args.toArray, argTypes := ts }) (hc : ρ c = .func (.func f) first cap)
    (hf : P.funcs[f]? = some fn) (hb : fn.body.isNone = false) (hn : (fn.name == "runtime.NumGoroutine") = false) (hargs : List.map ρ args = vs) : (execOp ρ o).run P w = .ok (.enter f (first ++ vs.toArray ++ cap)) w := by
  unfold execOp
  simp only [ho, resolve, hc, Deferred.ofValue, invoke, callFunc, Sem.run_bind, Sem.run_pure, Result.andThen_ok, program, Sem.run, hf, hn, hb, List.map_toArray, hargs, Bool.false_eq_true, if_false]
theorem Exec.call {f : FuncId} {fn : Func} {args : List Operand} {ts : Array TypeId} {vs : List Value} (ho : o.op = .call { callee := .value (.func f), args := args.toArray, argTypes := ts }) (hc : ρ (.func f) = .func (.func f) #[] #[])
    (hf : P.funcs[f]? = some fn) (hb : fn.body.isNone = false) (hn : (fn.name == "runtime.NumGoroutine") = false) (hargs : List.map ρ args = vs)
    (h : Calls P f vs.toArray w fun e w' => ∃ v, e = .returned v ∧ K v w') : Exec P ρ o w K := by
  have hrun := run_call_aux (P := P) (w := w) ho hc hf hb hn hargs
  unfold Exec
  rw [hrun]
  simpa using h
/-- A call of a function value that the text itself has made. -/
theorem Exec.callv {c : Operand} {f : FuncId} {fn : Func} {args : List Operand} {ts : Array TypeId} {vs : List Value} {first cap : Array Value} (ho : o.op = .call { callee := .value c, args := args.toArray, argTypes := ts }) (hc : ρ c = .func (.func f) first cap)
    (hf : P.funcs[f]? = some fn) (hb : fn.body.isNone = false) (hn : (fn.name == "runtime.NumGoroutine") = false) (hargs : List.map ρ args = vs)
    (h : Calls P f (first ++ vs.toArray ++ cap) w fun e w' => ∃ v, e = .returned v ∧ K v w') : Exec P ρ o w K := by
  have hrun := run_call_aux (P := P) (w := w) ho hc hf hb hn hargs
  unfold Exec
  rw [hrun]
  exact h
end
end Go.Pw
