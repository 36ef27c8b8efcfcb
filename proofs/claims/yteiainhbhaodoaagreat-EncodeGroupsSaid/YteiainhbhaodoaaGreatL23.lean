/- -/
import Derived.Test.YteiainhbhaodoaaGreatL16
import Derived.Test.YteiainhbhaodoaaGreatL12
set_option linter.unusedSimpArgs false
namespace Go.Pw
section
variable {P : Program} {ρ : Operand → Value} {o : Oper} {w w0 : World} {s : PHeap} {H : List Res} {K : Value → World → Prop} {T : TypeId}
theorem Qag {x i : Operand} {k : IntKind} {n y : Int} {q : ByteArray} (hT : P.underlying T = some .string) (ho : o.op = .index T x i) (hx : ρ x = .string q) (hi : ρ i = .int k n) (hy : Q9 (Kt q) n = some y) (hk : K (.int .u8 y) w) : Exec P ρ o w K := by
 obtain ⟨h0, hlt, hget⟩ := Qr hy
 refine QgV (v := .int .u8 y) ho hx hi ?_ hk
 obtain ⟨b, hb, rfl⟩ : ∃ b, q[n.toNat]? = some b ∧ y = (b.toNat : Int) := by
  unfold Kt at hget
  rw [List.getElem?_map, Option.map_eq_some_iff] at hget
  obtain ⟨b, hb, rfl⟩ := hget
  refine ⟨b, ?_, Z⟩
  have hl := (List.getElem?_eq_some_iff.1 hb).1
  rw [Array.getElem?_toList] at hb
  have hlt' : n.toNat < q.size := by rw [Array.length_toList] at hl; exact hl
  rw [getElem?_pos q n.toNat hlt', ← hb]
  obtain ⟨_, h2⟩ := Array.getElem?_eq_some_iff.1 hb
  rw [hb, ← h2]
  rfl
 simp only [Instr.index, asIntOf, Sem.run_bind, Sem.run_pure, Result.andThen_ok, run_underlying hT]
 rw [if_pos h0, hb]
 rfl
theorem QbW {α : Type} {E : Enc α} {b : Nat} {Te : TypeId} {cs : List Value} {y : α} (hS : St w0 s (.box b Te cs :: H) w) (h : E.rep s cs y) : ∃ t, PHeap.le s t ∧ St w0 t H w ∧ At t b 0 E y := by
 obtain ⟨bs, t, hp, hle, hbs, hS'⟩ := hS.freezeWith
 obtain ⟨rfl, hb⟩ := hp
 refine ⟨t, hle, hS', cs.toArray, Te, (0, 0), by rw [hbs b (by simp), hb], ?_⟩
 have h2 := E.mono hle h
 have hl := E.len h
 simp only [List.drop_zero]
 rw [List.take_of_length_le (by omega)]
 exact h2
theorem Exec.makeFunc {fn : Fn} {caps : List Operand} {vs : List Value} (ho : o.op = .makeFunc fn #[] caps.toArray) (hc : List.map ρ caps = vs) (hk : K (.func fn #[] vs.toArray) w) : Exec P ρ o w K := by
 refine .of_run (v := .func fn #[] vs.toArray) (w' := w) ?_ hk
 unfold execOp
 simp only [ho, Instr.makeFunc, Sem.run_bind, Sem.run_pure, Result.andThen_ok, List.map_toArray, hc]
 rfl
theorem KR {c : Operand} {f : FuncId} {fn : Func} {args : List Operand} {ts : Array TypeId} {vs cap all : List Value} (ho : o.op = .call { callee := .value c, args := args.toArray, argTypes := ts }) (hc : ρ c = .func (.func f) #[] cap.toArray)
  (hf : P.funcs[f]? = some fn) (hb : fn.body.isNone = false) (hn : (fn.name == "runtime.NumGoroutine") = false) (hargs : List.map ρ args = vs) (hall : vs ++ cap = all)
  (h : Calls P f all.toArray w fun e w' => ∃ v, e = .returned v ∧ K v w') : Exec P ρ o w K :=
 Qfo ho hc hf hb hn hargs (by subst hall; simpa using h)
end
end Go.Pw
