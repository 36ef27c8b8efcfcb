/- -/
import Derived.Test.YtjbjflndiajoiaaGreatDoorLE
import Derived.Test.YtjbjflndiajoiaaGreatDoorLC
import Derived.Test.YtjbjflndiajoiaaGreatDoorLB
import Derived.Test.YtjbjflndiajoiaaGreatDoorLD
set_option linter.unusedSimpArgs false
namespace Go.Pw
def Qhm (P : Program) (T : TypeId) (n : Nat) : Bool :=
 (match P.underlying T with | some (.array m e) => Nat.beq m n && P.plainKey e && (match P.underlying e with | some (.int .i64) => true | _ => false) && Nat.beq (P.cellsOf e) 1 && (P.info? e).isSome | _ => false) && !P.eqGuardType P.depth T
section
variable {P : Program} {ρ : Operand → Value} {o : Oper} {w : World} {K : Value → World → Prop} {T T' : TypeId} {x y : Operand}
theorem QbI (d : Nat) {e : TypeId} (he : P.plainKey e = true) (hu : P.underlying e = some (.int .i64)) : ∀ (xs ys : List Int) (i : Nat) (X Y : Array Value), xs.length = ys.length → (∀ j a, xs[j]? = some a → X[i + j]? = some (iv a)) → (∀ j a, ys[j]? = some a → Y[i + j]? = some (iv a)) →
  (Op.eqItems (d + 1) e 1 X Y (List.range' i xs.length)).run P w = .ok (eqs xs ys) w
 | [], [], _, _, _, _, _, _ => by simp [Op.eqItems, eqs]
 | [], _ :: _, _, _, _, h, _, _ => by simp at h
 | _ :: _, [], _, _, _, h, _, _ => by simp at h
 | a :: xs, b :: ys, i, X, Y, h, hX, hY => by
  have e1 := run_part_plain (w := w) he (hX 0 a rfl)
  have e2 := run_part_plain (w := w) he (hY 0 b rfl)
  rw [Nat.add_zero] at e1 e2
  have ih := QbI d he hu xs ys (i + 1) X Y (by simpa using h) (fun j a h => by rw [Nat.add_assoc, Nat.add_comm 1 j]; exact hX (j + 1) a (by simpa using h)) (fun j a h => by rw [Nat.add_assoc, Nat.add_comm 1 j]; exact hY (j + 1) a (by simpa using h))
  simp only [List.length_cons, List.range'_succ, Op.eqItems, Nat.mul_one, Sem.run_bind, e1, e2, Result.andThen_ok, iv, run_equalIn_int _ _ _ _ _ _ _ hu]
  by_cases e : a = b
  ·subst e
   simp [eqs, ih]
  ·simp [eqs, e]
theorem QjN {xs ys : List Int} {n : Nat} {u v : Value} (hT : Qhm P T n = true) (hu : u = .agg (xs.map iv).toArray) (hv : v = .agg (ys.map iv).toArray) (hnx : xs.length = n) (hny : ys.length = n) (ho : o.op = .binOp .eql T x y T') (hx : ρ x = u) (hy : ρ y = v)
  (hk : K (.bool (eqs xs ys)) w) : Exec P ρ o w K := by
 subst hu; subst hv
 simp only [Qhm, Bool.and_eq_true, Bool.not_eq_true'] at hT
 obtain ⟨h1, h3⟩ := hT
 split at h1
 ·rename_i m e hfs
  simp only [Bool.and_eq_true] at h1
  obtain ⟨⟨⟨⟨hm, hp⟩, hi⟩, hc⟩, hinfo⟩ := h1
  obtain ⟨inf, hinf⟩ := Option.isSome_iff_exists.1 hinfo
  have hm := Nat.eq_of_beq_eq_true hm
  have hc := Nat.eq_of_beq_eq_true hc
  have hu : P.underlying e = some (.int .i64) := by
   split at hi
   ·assumption
   ·cases hi
  have := QbI (P := P) (w := w) 9998 hp hu xs ys 0 _ _ (by omega) (fun j a h => QcW h) (fun j a h => QcW h)
  refine Qaa (op := .eql) ho hx hy (run_eqGuard_agg _ _ _ _ _ _ _ h3) ?_ hk
  rw [run_eql_struct, run_equalIn_array w 9999 _ _ hfs hinf, hc, List.range_eq_range', hm, ← hnx, this]
  rfl
 ·cases h1
theorem QjM {xs ys : List Int} {n : Nat} {u v : Value} (hT : Qhm P T n = true) (hu : u = .agg (xs.map iv).toArray) (hv : v = .agg (ys.map iv).toArray) (hnx : xs.length = n) (hny : ys.length = n) (ho : o.op = .binOp .neq T x y T') (hx : ρ x = u) (hy : ρ y = v)
  (hk : K (.bool (!eqs xs ys)) w) : Exec P ρ o w K := by
 subst hu; subst hv
 simp only [Qhm, Bool.and_eq_true, Bool.not_eq_true'] at hT
 obtain ⟨h1, h3⟩ := hT
 split at h1
 ·rename_i m e hfs
  simp only [Bool.and_eq_true] at h1
  obtain ⟨⟨⟨⟨hm, hp⟩, hi⟩, hc⟩, hinfo⟩ := h1
  obtain ⟨inf, hinf⟩ := Option.isSome_iff_exists.1 hinfo
  have hm := Nat.eq_of_beq_eq_true hm
  have hc := Nat.eq_of_beq_eq_true hc
  have hu : P.underlying e = some (.int .i64) := by
   split at hi
   ·assumption
   ·cases hi
  have := QbI (P := P) (w := w) 9998 hp hu xs ys 0 _ _ (by omega) (fun j a h => QcW h) (fun j a h => QcW h)
  refine Qaa (op := .neq) ho hx hy (run_eqGuard_agg _ _ _ _ _ _ _ h3) ?_ hk
  rw [run_neq_struct, run_equalIn_array w 9999 _ _ hfs hinf, hc, List.range_eq_range', hm, ← hnx, this]
  rfl
 ·cases h1
end
end Go.Pw
/- -/
namespace Go.Pw
section
variable {P : Program} {ρ : Operand → Value} {o : Oper} {w w0 : World} {s : PHeap} {H : List Res} {K : Value → World → Prop} {T : TypeId}
theorem Qby {x i : Operand} {k : IntKind} {n y : Int} {q : ByteArray} (hT : P.underlying T = some .string) (ho : o.op = .index T x i) (hx : ρ x = .string q) (hi : ρ i = .int k n) (hy : Q9 (bytesOf q) n = some y) (hk : K (.int .u8 y) w) : Exec P ρ o w K := by
 obtain ⟨h0, hlt, hget⟩ := Qb hy
 refine QkJ (v := .int .u8 y) ho hx hi ?_ hk
 obtain ⟨b, hb, rfl⟩ : ∃ b, q[n.toNat]? = some b ∧ y = (b.toNat : Int) := by
  unfold bytesOf at hget
  rw [List.getElem?_map, Option.map_eq_some_iff] at hget
  obtain ⟨b, hb, rfl⟩ := hget
  refine ⟨b, ?_, Z⟩
  have hl := (List.getElem?_eq_some_iff.1 hb).1
  rw [Array.getElem?_toList] at hb
  have hlt' : n.toNat < q.size := by rw [Array.length_toList] at hl; exact hl
  rw [getElem?_pos q n.toNat hlt', ← hb]
  obtain ⟨_, h2⟩ := Array.getElem?_eq_some_iff.1 hb
  rw [hb, ← h2]
  rfl
 simp only [Instr.index, asIntOf, Sem.run_bind, Sem.run_pure, Result.andThen_ok, run_underlying hT]
 rw [if_pos h0, hb]
 rfl
theorem St.freezeVar {α : Type} {E : Enc α} {b : Nat} {Te : TypeId} {cs : List Value} {y : α} (hS : St w0 s (.box b Te cs :: H) w) (h : E.rep s cs y) : ∃ t, PHeap.le s t ∧ St w0 t H w ∧ At t b 0 E y := by
 obtain ⟨bs, t, hp, hle, hbs, hS'⟩ := hS.freezeWith
 obtain ⟨rfl, hb⟩ := hp
 refine ⟨t, hle, hS', cs.toArray, Te, (0, 0), by rw [hbs b (by simp), hb], ?_⟩
 have h2 := E.mono hle h
 have hl := E.len h
 simp only [List.drop_zero]
 rw [List.take_of_length_le (by omega)]
 exact h2
theorem Exec.makeFunc {fn : Fn} {caps : List Operand} {vs : List Value} (ho : o.op = .makeFunc fn #[] caps.toArray) (hc : List.map ρ caps = vs) (hk : K (.func fn #[] vs.toArray) w) : Exec P ρ o w K := by
 refine .of_run (v := .func fn #[] vs.toArray) (w' := w) ?_ hk
 unfold execOp
 simp only [ho, Instr.makeFunc, Sem.run_bind, Sem.run_pure, Result.andThen_ok, List.map_toArray, hc]
 rfl
theorem Qib {c : Operand} {f : FuncId} {fn : Func} {args : List Operand} {ts : Array TypeId} {vs cap all : List Value} (ho : o.op = .call { callee := .value c, args := args.toArray, argTypes := ts }) (hc : ρ c = .func (.func f) #[] cap.toArray)
  (hf : P.funcs[f]? = some fn) (hb : fn.body.isNone = false) (hn : (fn.name == "runtime.NumGoroutine") = false) (hargs : List.map ρ args = vs) (hall : vs ++ cap = all)
  (h : Calls P f all.toArray w fun e w' => ∃ v, e = .returned v ∧ K v w') : Exec P ρ o w K :=
 QhZ ho hc hf hb hn hargs (by subst hall; simpa using h)
end
end Go.Pw
/- -/
namespace Go.Pw
section
variable {P : Program} {ρ : Operand → Value} {o : Oper} {w : World} {K : Value → World → Prop} {T T' E : TypeId} {x : Operand} {a : Option Addr} {n c : Nat}
theorem Qfu (hT : P.underlying T = some (.slice E)) (ho : o.op = .binOp .neq T x (.const (.slice none 0 0)) T') (hx : ρ x = .slice a n c) (hc : ρ (.const (.slice none 0 0)) = .slice none 0 0) (hk : K (.bool a.isSome) w) : Exec P ρ o w K :=
 Qaa (op := .neq) (a := .slice a n c) (b := .slice none 0 0) ho hx hc (by simp [eqGuard]) (by simp only [binOp]; cases a <;> simp [Qcq w T E _ n c 0 0 hT]) hk
end
theorem Kj {e : Option Int} (h : e.isSome = true) : e.isNone = false := by cases e <;> simp_all
theorem KZ {e : Option Int} (h : e.isNone = true) : e.isSome = false := by cases e <;> simp_all
end Go.Pw
/- -/
set_option linter.unusedVariables false
namespace Go.Pw
section
variable {P : Program} {ρ : Operand → Value} {o : Oper} {w w0 : World} {s : PHeap} {H : List Res} {K : Value → World → Prop} {T : TypeId}
end
end Go.Pw
/- -/
namespace Go.Pw
section
variable {P : Program} {ρ : Operand → Value} {o : Oper} {w w0 : World} {K : Value → World → Prop} {T : TypeId} {s : PHeap} {H : List Res}
end
end Go.Pw
/- -/
namespace Go.Pw
def Upd {α β : Type} (E : Enc α) (off : Nat) (F : Enc β) (set : α → β → α) : Prop := ∀ s cells a fs b, E.rep s cells a → F.rep s fs b → off + F.sz ≤ E.sz ∧ E.rep s (cells.take off ++ fs ++ cells.drop (off + F.sz)) (set a b)
section
variable {α β γ : Type} {E : Enc α} {F : Enc β} {off : Nat}
theorem Upd.refl (E : Enc α) : Upd E 0 E (fun _ b => b) := fun s cells a fs b h k => by
 have h1 := E.len h
 have h2 := E.len k
 refine ⟨by omega, ?_⟩
 rw [List.take_zero, List.drop_of_length_le (by omega), List.nil_append, List.append_nil]
 exact k
theorem Upd.iso {f : γ → α} {g : α → β → α} {k : γ → β → γ} (h : Upd E off F g) (hf : ∀ c b, f (k c b) = g (f c) b) : Upd (E.iso f) off F k := fun s cells a fs b hr hk => by
 obtain ⟨h1, h2⟩ := h s cells (f a) fs b hr hk
 refine ⟨h1, ?_⟩
 show E.rep s _ (f (k a b))
 rw [hf]
 exact h2
theorem Upd.fst {A : Enc α} {B : Enc γ} {g : α → β → α} (h : Upd A off F g) : Upd (A.pair B) off F (fun p b => (g p.1 b, p.2)) := by
 rintro s cells p fs b ⟨c1, c2, rfl, h1, h2⟩ hk
 obtain ⟨h3, h4⟩ := h s c1 p.1 fs b h1 hk
 have hl := A.len h1
 refine ⟨by show off + F.sz ≤ A.sz + B.sz; omega, _, c2, ?_, h4, h2⟩
 rw [List.take_append_of_le_length (by omega), List.drop_append_of_le_length (by omega)]
 simp
theorem Upd.snd {A : Enc α} {B : Enc γ} {g : γ → β → γ} {n : Nat} (h : Upd B off F g) (hn : A.sz + off = n) : Upd (A.pair B) n F (fun p b => (p.1, g p.2 b)) := by
 rintro s cells p fs b ⟨c1, c2, rfl, h1, h2⟩ hk
 obtain ⟨h3, h4⟩ := h s c2 p.2 fs b h2 hk
 have hl := A.len h1
 subst hn
 refine ⟨by show A.sz + off + F.sz ≤ A.sz + B.sz; omega, c1, _, ?_, h1, h4⟩
 rw [← hl, List.take_length_add_append, Nat.add_assoc, List.drop_length_add_append]
 simp
end
section
variable {P : Program} {ρ : Operand → Value} {o : Oper} {w w0 : World} {K : Value → World → Prop} {s : PHeap} {H : List Res} {T Te : TypeId} {α : Type} {E : Enc α} {v : Value} {xs : List α}
end
end Go.Pw
/- -/
namespace Go.Pw
def QlY (Z : List Nat) (n0 : Nat) (ops : List Oper) (i : Nat) : Bool := isQ n0 ops i && !Z.contains i
def QpI (Z : List Nat) (n0 : Nat) (ops : List Oper) (i : Nat) (o : Oper) (u : Nat) : Bool := ((List.range n0).all fun k => !Qa6 ops k u || (!QlY Z n0 ops k && (match ops[k]? with | some ok => (Yq ok).contains i | none => false))) || (Yq o).any fun k => Nat.blt k n0 && Qa6 ops k u
def Qhy (Z : List Nat) (n0 : Nat) (ops : List Oper) (i : Nat) (o : Oper) : Bool :=
 (o.op.operands.toList.all fun x => match x with | .tmp u => QpI Z n0 ops i o u | _ => true) && (match o.guard with | some (j, _) => (Yq o).contains j && Nat.blt j n0 | none => true) && Qne o
def Qn9 (Z : List Nat) (n0 : Nat) (ops : List Oper) (T : List (List Nat)) (nx : List Nat) (qd ed : List Nat) : Bool :=
 (List.range n0).all fun i => qd.contains i || ed.contains i || nx.contains i || (QeR T i).any fun j => !QlY Z n0 ops j && !qd.contains j && !ed.contains j
def Qfy (Z : List Nat) (n0 : Nat) (ops : List Oper) (T : List (List Nat)) : DPlan → Option (List Nat) → List Nat → List Nat → Bool
 | .done, nx, qd, ed => nx.isNone && (List.range n0).all fun i => qd.contains i || ed.contains i
 | .q i r, nx, qd, ed => nx.isNone && Nat.blt i n0 && (match ops[i]? with
  | some o => QlY Z n0 ops i && QcU o && !qd.contains i && ((Yq o).all fun j => qd.contains j || ed.contains j) && Qhy Z n0 ops i o
  | none => false) && Qfy Z n0 ops T r none (i :: qd) ed
 | .e i ag r, nx, qd, ed => Nat.blt i n0 && (match ops[i]? with
  | some o => !QlY Z n0 ops i && !ed.contains i && ((Yq o).all fun j => qd.contains j || ed.contains j) && Qhy Z n0 ops i o
  | none => false) && Qn9 Z n0 ops T (nx.getD [i]) qd ed && (qd.all fun j => ag.contains j || (QeR T i).contains j || ed.any fun k => (QeR T k).contains j) && Qfy Z n0 ops T r none qd (i :: ed)
 | .alt p q, nx, qd, ed => Qfy Z n0 ops T p (some (nx.getD (KS p ++ KS q))) qd ed && Qfy Z n0 ops T q (some (nx.getD (KS p ++ KS q))) qd ed
structure CanonZ (Z : List Nat) (P : Program) (n0 : Nat) (ops : List Oper) (T : List (List Nat)) (K : Fr → World → Prop) (p : DPlan) (gk : Fr) (w : World) (qd ed : List Nat) (dn : Nat → Bool) : Prop where
 ok : Qfy Z n0 ops T p none qd ed = true
 dl : DL P ops K p gk w
 nq : ∀ i ∈ qd, i < n0 ∧ QlY Z n0 ops i = true ∧ ∃ o, ops[i]? = some o ∧ QcU o = true ∧ Qhy Z n0 ops i o = true ∧ ∀ j ∈ Yq o, j ∈ qd ∨ j ∈ ed
 ne : ∀ i ∈ ed, i < n0 ∧ QlY Z n0 ops i = false
 ag : ∀ i ∈ qd, dn i = false → QX P ops gk w i
section
variable {P : Program} {n0 : Nat} {ops : List Oper} {T : List (List Nat)} {K : Fr → World → Prop} {gk : Fr} {w : World} {qd ed : List Nat}
end
section
variable {P : Program} {N : Nat} {Q : QbR} {f : Fr} {w : World}
end
end Go.Pw
/- -/
namespace Go.Pw
def Yt (P : Program) (t : TypeId) (name : String) : Option (FuncId × Bool) := match P.info? t with
 | some i => (match i.methods.find? (·.name == name) with
  | some m => if m.path.isEmpty then m.func else none
  | none => none)
 | none => none
theorem SubOf.one {sz : Nat} {v u : Value} {l n : Nat} (h : SubOf sz v u l n) : u.oneCell' = true := by
 rcases h with ⟨rfl, _, a, c, rfl⟩ | ⟨g, cap, len, _, _, _, rfl⟩ <;> rfl
section
variable {P : Program} {ρ : Operand → Value} {o : Oper} {w : World} {K : Value → World → Prop}
theorem QjA {t : TypeId} {i : TypeInfo} {w : World} (h : P.info? t = some i) : (typeInfo t).run P w = .ok i w := by simp [typeInfo, h, go_sem]
theorem Qo3 (ts : Array TypeId) (t : TypeId) (a : Addr) (s n : String) (w : World) : (Builtin.ssaWrapNilChk_ ts t #[.pointer (some a), strVal s, strVal n]).run P w = .ok (.pointer (some a)) w := rfl
theorem QjD {t E : TypeId} {name : String} {f : FuncId} {b : Bool} {a : Addr} {r : Value} {n : Nat} (hm : Yt P t name = some (f, b)) (hT : P.underlying t = some (.pointer E)) (hr : if b then r = .pointer (some a) else (loadVar E a).run P w = .ok r w) :
  (method (n + 1) t (.pointer (some a)) name).run P w = .ok (f, r) w := by
 unfold Yt at hm
 split at hm
 ·rename_i i hi
  split at hm
  ·rename_i m hf
   split at hm
   ·rename_i he
    have hp : m.path.toList = [] := by simpa using he
    have hp' : m.path = #[] := by simpa using he
    unfold method
    cases b with
    | true =>
     simp only [if_true] at hr
     subst hr
     simp [typeInfo, hi, hf, hp, follow, hm, receiverAt, run_underlying hT, Place.get, go_sem]
    | false =>
     simp only [Bool.false_eq_true, if_false] at hr
     simp only [Sem.run_bind, QjA hi, Result.andThen_ok, hf, hp, follow, Sem.run_pure, hm, receiverAt, run_underlying hT, Place.get, he, if_true, Qo3, asAddr, hr]
   ·cases hm
  ·cases hm
 ·cases hm
theorem QhN {recv : Operand} {name : String} {args : List Operand} {ts : Array TypeId} {vs : List Value} {t E : TypeId} {a : Addr} {f : FuncId} {b : Bool} {fn : Func} {r : Value} (hm : Yt P t name = some (f, b)) (hT : P.underlying t = some (.pointer E)) (ho : o.op = .call { callee := .invoke recv name, args := args.toArray, argTypes := ts }) (hr : ρ recv = .iface t (.pointer (some a)))
  (hv : if b then r = .pointer (some a) else (loadVar E a).run P w = .ok r w) (hf : P.funcs[f]? = some fn) (hb : fn.body.isNone = false) (hn : (fn.name == "runtime.NumGoroutine") = false) (hargs : List.map ρ args = vs) : (execOp ρ o).run P w = .ok (.enter f (r :: vs).toArray) w := by
 have h0 := QjD (w := w) (a := a) (r := r) (n := P.types.size + 99) hm hT hv
 have e1 : ((#[Value.iface t (.pointer (some a))] ++ vs.toArray : Array Value))[0]? = some (.iface t (.pointer (some a))) := by simp
 have e2 : (#[r] ++ (#[Value.iface t (.pointer (some a))] ++ vs.toArray).extract 1) = (r :: vs).toArray := by
  apply Array.toList_inj.1
  simp
 unfold execOp
 simp only [ho, resolve, invoke, callMethod, Sem.run_bind, Sem.run_pure, Result.andThen_ok, hr, List.map_toArray, hargs, e1]
 have hp : (program).run P w = .ok P w := rfl
 have h1 : (method (P.types.size + Made.depth) t (.pointer (some a)) name).run P w = .ok (f, r) w := h0
 simp only [hp, Result.andThen_ok, h1, e2]
 unfold callFunc
 simp only [Sem.run_bind, hp, Result.andThen_ok, hf, hn, hb, Bool.false_eq_true, if_false, Sem.run_pure]
theorem QdN {recv : Operand} {name : String} {args : List Operand} {ts : Array TypeId} {vs : List Value} {t E : TypeId} {a : Addr} {f : FuncId} {fn : Func} (hm : Yt P t name = some (f, true)) (hT : P.underlying t = some (.pointer E)) (ho : o.op = .call { callee := .invoke recv name, args := args.toArray, argTypes := ts }) (hr : ρ recv = .iface t (.pointer (some a)))
  (hf : P.funcs[f]? = some fn) (hb : fn.body.isNone = false) (hn : (fn.name == "runtime.NumGoroutine") = false) (hargs : List.map ρ args = vs)
  (h : Calls P f (.pointer (some a) :: vs).toArray w fun e w' => ∃ v, e = .returned v ∧ K v w') : Exec P ρ o w K := by
 have hrun := QhN (w := w) (r := .pointer (some a)) hm hT ho hr (by simp) hf hb hn hargs
 unfold Exec
 rw [hrun]
 exact h
theorem Kt {recv : Operand} {name : String} {args : List Operand} {ts : Array TypeId} {vs cs : List Value} {w0 : World} {s : PHeap} {H : List Res} {t E : TypeId} {b : Nat} {v : Value} {f : FuncId} {fn : Func} (hm : Yt P t name = some (f, false)) (hT : P.underlying t = some (.pointer E)) (hE : YB P E = some (false, 1)) (hS : St w0 s (Res.box b E cs :: H) w) (hv : cs[0]? = some v) (ho : o.op = .call { callee := .invoke recv name, args := args.toArray, argTypes := ts }) (hr : ρ recv = .iface t (.pointer (some ⟨b, 0, none⟩)))
  (hf : P.funcs[f]? = some fn) (hb : fn.body.isNone = false) (hn : (fn.name == "runtime.NumGoroutine") = false) (hargs : List.map ρ args = vs)
  (h : Calls P f (v :: vs).toArray w fun e w' => ∃ u, e = .returned u ∧ K u w') : Exec P ρ o w K := by
 have hc : w.cell? ⟨b, 0, none⟩ = some v := by simp [World.cell?, hS.box_heap, hv]
 have hrun := QhN (w := w) (r := v) hm hT ho hr (by simpa using YH hE hc) hf hb hn hargs
 unfold Exec
 rw [hrun]
 exact h
theorem QcJ {T I : TypeId} {x : Operand} {v : Value} (hT : P.concrete T = true) (ho : o.op = .typeAssert x I T true) (hx : ρ x = .iface T v) (hk : K (.tuple #[v, .bool true]) w) : Exec P ρ o w K := by
 refine .of_run ?_ hk
 unfold execOp
 simp only [ho, hx, Instr.typeAssert]
 unfold Program.concrete at hT
 cases hu : P.underlying T with
 | none => rw [hu] at hT; cases hT
 | some d =>
  rw [hu] at hT
  simp only [Sem.run_bind, run_underlying hu, Result.andThen_ok]
  cases d <;> simp_all [go_sem]
end
end Go.Pw
