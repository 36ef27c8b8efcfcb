/- -/
import Derived.Test.YtcpkjkmbdolfnaaGreatDoorLE
import Derived.Test.YtcpkjkmbdolfnaaGreatDoorLC
import Derived.Test.YtcpkjkmbdolfnaaGreatDoorLB
set_option linter.unusedSimpArgs false
namespace Go.Pw
def Qgk (P : Program) (T : TypeId) (n : Nat) : Bool :=
 (match P.underlying T with | some (.array m e) => Nat.beq m n && P.plainKey e && (match P.underlying e with | some (.int .i64) => true | _ => false) && Nat.beq (P.cellsOf e) 1 && (P.info? e).isSome | _ => false) && !P.eqGuardType P.depth T
section
variable {P : Program} {ρ : Operand → Value} {o : Oper} {w : World} {K : Value → World → Prop} {T T' : TypeId} {x y : Operand}
theorem QaU (d : Nat) {e : TypeId} (he : P.plainKey e = true) (hu : P.underlying e = some (.int .i64)) : ∀ (xs ys : List Int) (i : Nat) (X Y : Array Value), xs.length = ys.length → (∀ j a, xs[j]? = some a → X[i + j]? = some (iv a)) → (∀ j a, ys[j]? = some a → Y[i + j]? = some (iv a)) →
  (Op.eqItems (d + 1) e 1 X Y (List.range' i xs.length)).run P w = .ok (eqs xs ys) w
 | [], [], _, _, _, _, _, _ => by simp [Op.eqItems, eqs]
 | [], _ :: _, _, _, _, h, _, _ => by simp at h
 | _ :: _, [], _, _, _, h, _, _ => by simp at h
 | a :: xs, b :: ys, i, X, Y, h, hX, hY => by
  have e1 := run_part_plain (w := w) he (hX 0 a rfl)
  have e2 := run_part_plain (w := w) he (hY 0 b rfl)
  rw [Nat.add_zero] at e1 e2
  have ih := QaU d he hu xs ys (i + 1) X Y (by simpa using h) (fun j a h => by rw [Nat.add_assoc, Nat.add_comm 1 j]; exact hX (j + 1) a (by simpa using h)) (fun j a h => by rw [Nat.add_assoc, Nat.add_comm 1 j]; exact hY (j + 1) a (by simpa using h))
  simp only [List.length_cons, List.range'_succ, Op.eqItems, Nat.mul_one, Sem.run_bind, e1, e2, Result.andThen_ok, iv, run_equalIn_int _ _ _ _ _ _ _ hu]
  by_cases e : a = b
  ·subst e
   simp [eqs, ih]
  ·simp [eqs, e]
theorem Qi8 {xs ys : List Int} {n : Nat} {u v : Value} (hT : Qgk P T n = true) (hu : u = .agg (xs.map iv).toArray) (hv : v = .agg (ys.map iv).toArray) (hnx : xs.length = n) (hny : ys.length = n) (ho : o.op = .binOp .eql T x y T') (hx : ρ x = u) (hy : ρ y = v)
  (hk : K (.bool (eqs xs ys)) w) : Exec P ρ o w K := by
 subst hu; subst hv
 simp only [Qgk, Bool.and_eq_true, Bool.not_eq_true'] at hT
 obtain ⟨h1, h3⟩ := hT
 split at h1
 ·rename_i m e hfs
  simp only [Bool.and_eq_true] at h1
  obtain ⟨⟨⟨⟨hm, hp⟩, hi⟩, hc⟩, hinfo⟩ := h1
  obtain ⟨inf, hinf⟩ := Option.isSome_iff_exists.1 hinfo
  have hm := Nat.eq_of_beq_eq_true hm
  have hc := Nat.eq_of_beq_eq_true hc
  have hu : P.underlying e = some (.int .i64) := by
   split at hi
   ·assumption
   ·cases hi
  have := QaU (P := P) (w := w) 9998 hp hu xs ys 0 _ _ (by omega) (fun j a h => Qcc h) (fun j a h => Qcc h)
  refine YX (op := .eql) ho hx hy (run_eqGuard_agg _ _ _ _ _ _ _ h3) ?_ hk
  rw [run_eql_struct, run_equalIn_array w 9999 _ _ hfs hinf, hc, List.range_eq_range', hm, ← hnx, this]
  rfl
 ·cases h1
theorem Qi7 {xs ys : List Int} {n : Nat} {u v : Value} (hT : Qgk P T n = true) (hu : u = .agg (xs.map iv).toArray) (hv : v = .agg (ys.map iv).toArray) (hnx : xs.length = n) (hny : ys.length = n) (ho : o.op = .binOp .neq T x y T') (hx : ρ x = u) (hy : ρ y = v)
  (hk : K (.bool (!eqs xs ys)) w) : Exec P ρ o w K := by
 subst hu; subst hv
 simp only [Qgk, Bool.and_eq_true, Bool.not_eq_true'] at hT
 obtain ⟨h1, h3⟩ := hT
 split at h1
 ·rename_i m e hfs
  simp only [Bool.and_eq_true] at h1
  obtain ⟨⟨⟨⟨hm, hp⟩, hi⟩, hc⟩, hinfo⟩ := h1
  obtain ⟨inf, hinf⟩ := Option.isSome_iff_exists.1 hinfo
  have hm := Nat.eq_of_beq_eq_true hm
  have hc := Nat.eq_of_beq_eq_true hc
  have hu : P.underlying e = some (.int .i64) := by
   split at hi
   ·assumption
   ·cases hi
  have := QaU (P := P) (w := w) 9998 hp hu xs ys 0 _ _ (by omega) (fun j a h => Qcc h) (fun j a h => Qcc h)
  refine YX (op := .neq) ho hx hy (run_eqGuard_agg _ _ _ _ _ _ _ h3) ?_ hk
  rw [run_neq_struct, run_equalIn_array w 9999 _ _ hfs hinf, hc, List.range_eq_range', hm, ← hnx, this]
  rfl
 ·cases h1
end
end Go.Pw
/- -/
namespace Go.Pw
section
variable {P : Program} {ρ : Operand → Value} {o : Oper} {w w0 : World} {s : PHeap} {H : List Res} {K : Value → World → Prop} {T : TypeId}
theorem QaB {x i : Operand} {k : IntKind} {n y : Int} {q : ByteArray} (hT : P.underlying T = some .string) (ho : o.op = .index T x i) (hx : ρ x = .string q) (hi : ρ i = .int k n) (hy : Qz (bytesOf q) n = some y) (hk : K (.int .u8 y) w) : Exec P ρ o w K := by
 obtain ⟨h0, hlt, hget⟩ := Qd hy
 refine Qj5 (v := .int .u8 y) ho hx hi ?_ hk
 obtain ⟨b, hb, rfl⟩ : ∃ b, q[n.toNat]? = some b ∧ y = (b.toNat : Int) := by
  unfold bytesOf at hget
  rw [List.getElem?_map, Option.map_eq_some_iff] at hget
  obtain ⟨b, hb, rfl⟩ := hget
  refine ⟨b, ?_, Z⟩
  have hl := (List.getElem?_eq_some_iff.1 hb).1
  rw [Array.getElem?_toList] at hb
  have hlt' : n.toNat < q.size := by rw [Array.length_toList] at hl; exact hl
  rw [getElem?_pos q n.toNat hlt', ← hb]
  obtain ⟨_, h2⟩ := Array.getElem?_eq_some_iff.1 hb
  rw [hb, ← h2]
  rfl
 simp only [Instr.index, asIntOf, Sem.run_bind, Sem.run_pure, Result.andThen_ok, run_underlying hT]
 rw [if_pos h0, hb]
 rfl
theorem St.freezeVar {α : Type} {E : Enc α} {b : Nat} {Te : TypeId} {cs : List Value} {y : α} (hS : St w0 s (.box b Te cs :: H) w) (h : E.rep s cs y) : ∃ t, PHeap.le s t ∧ St w0 t H w ∧ At t b 0 E y := by
 obtain ⟨bs, t, hp, hle, hbs, hS'⟩ := hS.freezeWith
 obtain ⟨rfl, hb⟩ := hp
 refine ⟨t, hle, hS', cs.toArray, Te, (0, 0), by rw [hbs b (by simp), hb], ?_⟩
 have h2 := E.mono hle h
 have hl := E.len h
 simp only [List.drop_zero]
 rw [List.take_of_length_le (by omega)]
 exact h2
theorem Exec.makeFunc {fn : Fn} {caps : List Operand} {vs : List Value} (ho : o.op = .makeFunc fn #[] caps.toArray) (hc : List.map ρ caps = vs) (hk : K (.func fn #[] vs.toArray) w) : Exec P ρ o w K := by
 refine .of_run (v := .func fn #[] vs.toArray) (w' := w) ?_ hk
 unfold execOp
 simp only [ho, Instr.makeFunc, Sem.run_bind, Sem.run_pure, Result.andThen_ok, List.map_toArray, hc]
 rfl
theorem Qkr {c : Operand} {f : FuncId} {fn : Func} {args : List Operand} {ts : Array TypeId} {vs cap all : List Value} (ho : o.op = .call { callee := .value c, args := args.toArray, argTypes := ts }) (hc : ρ c = .func (.func f) #[] cap.toArray)
  (hf : P.funcs[f]? = some fn) (hb : fn.body.isNone = false) (hn : (fn.name == "runtime.NumGoroutine") = false) (hargs : List.map ρ args = vs) (hall : vs ++ cap = all)
  (h : Calls P f all.toArray w fun e w' => ∃ v, e = .returned v ∧ K v w') : Exec P ρ o w K :=
 QgW ho hc hf hb hn hargs (by subst hall; simpa using h)
end
end Go.Pw
/- -/
namespace Go.Pw
section
variable {P : Program} {ρ : Operand → Value} {o : Oper} {w : World} {K : Value → World → Prop} {T T' E : TypeId} {x : Operand} {a : Option Addr} {n c : Nat}
end
theorem Y3 {e : Option Int} (h : e.isSome = true) : e.isNone = false := by cases e <;> simp_all
theorem YW {e : Option Int} (h : e.isNone = true) : e.isSome = false := by cases e <;> simp_all
end Go.Pw
/- -/
set_option linter.unusedVariables false
namespace Go.Pw
section
variable {P : Program} {ρ : Operand → Value} {o : Oper} {w w0 : World} {s : PHeap} {H : List Res} {K : Value → World → Prop} {T : TypeId}
end
end Go.Pw
/- -/
namespace Go.Pw
section
variable {P : Program} {ρ : Operand → Value} {o : Oper} {w w0 : World} {K : Value → World → Prop} {T : TypeId} {s : PHeap} {H : List Res}
theorem Qhg {α : Type} {E : Enc α} {xs ys : List α} {x hi : Operand} {v : Value} {k : IntKind} {r : Int} {e by_ : Nat} (hT : QV P T = some (e, E.sz, by_)) (ho : o.op = .slice T x none (some hi) none) (hx : ρ x = v) (hh : ρ hi = .int k r)
  (h : SliceRep E s v xs) (hy : Go.Pw.cut xs 0 r = some ys) (hk : ∀ u, SliceRep E s u ys → (∀ {ρ' : Operand → Value} {w' : World}, ρ' x = v → ρ' hi = .int k r → Exec P ρ' o w' fun v' w'' => w'' = w' ∧ v' = u) → K u w) : Exec P ρ o w K := by
 obtain ⟨_, h0, h1, rfl⟩ := Qe8 hy
 obtain ⟨i, hu, hi', hs, _⟩ := QJ hT
 obtain ⟨a, c, hv0⟩ := h.shape
 subst hv0
 have hcap : xs.length ≤ c := by
  rcases h with ⟨hv, rfl⟩ | ⟨a', cap', hv, rfl⟩ | ⟨b, off, cap', c', Te, fz, cells, hv, h1, _⟩
  ·simp
  ·simp
  ·cases hv; exact h1
 have hc := h.cut (l := 0) (r := r.toNat) (Nat.zero_le _) (by omega)
 have run : ∀ {ρ' : Operand → Value} {w' : World} {K' : Value → World → Prop}, ρ' x = .slice a xs.length c → ρ' hi = .int k r → K' (.slice (if c = 0 then a else a.map (·.add (0 * E.sz))) (r.toNat - 0) (c - 0)) w' → Exec P ρ' o w' K' := by
  intro ρ' w' K' hx' hh' hK
  refine .of_run (v := .slice (if c = 0 then a else a.map (·.add (0 * E.sz))) (r.toNat - 0) (c - 0)) ?_ hK
  unfold execOp
  simp only [ho, hx', hh', Option.map_none, Option.map_some, Instr.sliceAt, Instr.slice, Instr.sliceBounds, Sem.run_bind, run_underlying hu, Result.andThen_ok, Sem.run_pure, Kx (P := P) (w := w') (k := k) h0 (show r ≤ (c : Int) by omega)]
  simp [sizeOf, typeInfo, hi', hs]
 exact run hx hh (hk _ (by simpa using hc) fun {ρ' w'} hx' hh' => run hx' hh' ⟨Z, Z⟩)
theorem Qfu {α : Type} {E : Enc α} {xs ys : List α} {x lo : Operand} {v : Value} {k : IntKind} {l : Int} {e by_ : Nat} (hT : QV P T = some (e, E.sz, by_)) (ho : o.op = .slice T x (some lo) none none) (hx : ρ x = v) (hh : ρ lo = .int k l)
  (h : SliceRep E s v xs) (hy : Go.Pw.cut xs l xs.length = some ys) (hk : ∀ u, SliceRep E s u ys → (∀ {ρ' : Operand → Value} {w' : World}, ρ' x = v → ρ' lo = .int k l → Exec P ρ' o w' fun v' w'' => w'' = w' ∧ v' = u) → K u w) : Exec P ρ o w K := by
 obtain ⟨h0, h1, _, rfl⟩ := Qe8 hy
 obtain ⟨i, hu, hi', hs, _⟩ := QJ hT
 obtain ⟨a, c, hv0⟩ := h.shape
 subst hv0
 have hc := h.cut (l := l.toNat) (r := xs.length) (by omega) (Nat.le_refl _)
 have run : ∀ {ρ' : Operand → Value} {w' : World} {K' : Value → World → Prop}, ρ' x = .slice a xs.length c → ρ' lo = .int k l → K' (.slice (if c = l.toNat then a else a.map (·.add (l.toNat * E.sz))) (xs.length - l.toNat) (c - l.toNat)) w' → Exec P ρ' o w' K' := by
  intro ρ' w' K' hx' hh' hK
  refine .of_run (v := .slice (if c = l.toNat then a else a.map (·.add (l.toNat * E.sz))) (xs.length - l.toNat) (c - l.toNat)) ?_ hK
  unfold execOp
  simp only [ho, hx', hh', Option.map_none, Option.map_some, Instr.sliceAt, Instr.slice, Instr.sliceBounds, Sem.run_bind, run_underlying hu, Result.andThen_ok, Sem.run_pure, Kx (P := P) (w := w') (k := k) h0 h1]
  simp [sizeOf, typeInfo, hi', hs]
 exact run hx hh (hk _ (by simpa using hc) fun {ρ' w'} hx' hh' => run hx' hh' ⟨Z, Z⟩)
end
end Go.Pw
/- -/
namespace Go.Pw
def Upd {α β : Type} (E : Enc α) (off : Nat) (F : Enc β) (set : α → β → α) : Prop := ∀ s cells a fs b, E.rep s cells a → F.rep s fs b → off + F.sz ≤ E.sz ∧ E.rep s (cells.take off ++ fs ++ cells.drop (off + F.sz)) (set a b)
section
variable {α β γ : Type} {E : Enc α} {F : Enc β} {off : Nat}
theorem Upd.refl (E : Enc α) : Upd E 0 E (fun _ b => b) := fun s cells a fs b h k => by
 have h1 := E.len h
 have h2 := E.len k
 refine ⟨by omega, ?_⟩
 rw [List.take_zero, List.drop_of_length_le (by omega), List.nil_append, List.append_nil]
 exact k
theorem Upd.iso {f : γ → α} {g : α → β → α} {k : γ → β → γ} (h : Upd E off F g) (hf : ∀ c b, f (k c b) = g (f c) b) : Upd (E.iso f) off F k := fun s cells a fs b hr hk => by
 obtain ⟨h1, h2⟩ := h s cells (f a) fs b hr hk
 refine ⟨h1, ?_⟩
 show E.rep s _ (f (k a b))
 rw [hf]
 exact h2
theorem Upd.fst {A : Enc α} {B : Enc γ} {g : α → β → α} (h : Upd A off F g) : Upd (A.pair B) off F (fun p b => (g p.1 b, p.2)) := by
 rintro s cells p fs b ⟨c1, c2, rfl, h1, h2⟩ hk
 obtain ⟨h3, h4⟩ := h s c1 p.1 fs b h1 hk
 have hl := A.len h1
 refine ⟨by show off + F.sz ≤ A.sz + B.sz; omega, _, c2, ?_, h4, h2⟩
 rw [List.take_append_of_le_length (by omega), List.drop_append_of_le_length (by omega)]
 simp
theorem Upd.snd {A : Enc α} {B : Enc γ} {g : γ → β → γ} {n : Nat} (h : Upd B off F g) (hn : A.sz + off = n) : Upd (A.pair B) n F (fun p b => (p.1, g p.2 b)) := by
 rintro s cells p fs b ⟨c1, c2, rfl, h1, h2⟩ hk
 obtain ⟨h3, h4⟩ := h s c2 p.2 fs b h2 hk
 have hl := A.len h1
 subst hn
 refine ⟨by show A.sz + off + F.sz ≤ A.sz + B.sz; omega, c1, _, ?_, h1, h4⟩
 rw [← hl, List.take_length_add_append, Nat.add_assoc, List.drop_length_add_append]
 simp
end
section
variable {P : Program} {ρ : Operand → Value} {o : Oper} {w w0 : World} {K : Value → World → Prop} {s : PHeap} {H : List Res} {T Te : TypeId} {α : Type} {E : Enc α} {v : Value} {xs : List α}
end
end Go.Pw
/- -/
namespace Go.Pw
def QkR (Z : List Nat) (n0 : Nat) (ops : List Oper) (i : Nat) : Bool := isQ n0 ops i && !Z.contains i
def Qoc (Z : List Nat) (n0 : Nat) (ops : List Oper) (i : Nat) (o : Oper) (u : Nat) : Bool := ((List.range n0).all fun k => !YV ops k u || (!QkR Z n0 ops k && (match ops[k]? with | some ok => (KT ok).contains i | none => false))) || (KT o).any fun k => Nat.blt k n0 && YV ops k u
def Qgt (Z : List Nat) (n0 : Nat) (ops : List Oper) (i : Nat) (o : Oper) : Bool :=
 (o.op.operands.toList.all fun x => match x with | .tmp u => Qoc Z n0 ops i o u | _ => true) && (match o.guard with | some (j, _) => (KT o).contains j && Nat.blt j n0 | none => true) && QlN o
def Qmo (Z : List Nat) (n0 : Nat) (ops : List Oper) (T : List (List Nat)) (nx : List Nat) (qd ed : List Nat) : Bool :=
 (List.range n0).all fun i => qd.contains i || ed.contains i || nx.contains i || (QdP T i).any fun j => !QkR Z n0 ops j && !qd.contains j && !ed.contains j
def Qev (Z : List Nat) (n0 : Nat) (ops : List Oper) (T : List (List Nat)) : DPlan → Option (List Nat) → List Nat → List Nat → Bool
 | .done, nx, qd, ed => nx.isNone && (List.range n0).all fun i => qd.contains i || ed.contains i
 | .q i r, nx, qd, ed => nx.isNone && Nat.blt i n0 && (match ops[i]? with
  | some o => QkR Z n0 ops i && QbZ o && !qd.contains i && ((KT o).all fun j => qd.contains j || ed.contains j) && Qgt Z n0 ops i o
  | none => false) && Qev Z n0 ops T r none (i :: qd) ed
 | .e i ag r, nx, qd, ed => Nat.blt i n0 && (match ops[i]? with
  | some o => !QkR Z n0 ops i && !ed.contains i && ((KT o).all fun j => qd.contains j || ed.contains j) && Qgt Z n0 ops i o
  | none => false) && Qmo Z n0 ops T (nx.getD [i]) qd ed && (qd.all fun j => ag.contains j || (QdP T i).contains j || ed.any fun k => (QdP T k).contains j) && Qev Z n0 ops T r none qd (i :: ed)
 | .alt p q, nx, qd, ed => Qev Z n0 ops T p (some (nx.getD (KD p ++ KD q))) qd ed && Qev Z n0 ops T q (some (nx.getD (KD p ++ KD q))) qd ed
structure CanonZ (Z : List Nat) (P : Program) (n0 : Nat) (ops : List Oper) (T : List (List Nat)) (K : Fr → World → Prop) (p : DPlan) (gk : Fr) (w : World) (qd ed : List Nat) (dn : Nat → Bool) : Prop where
 ok : Qev Z n0 ops T p none qd ed = true
 dl : DL P ops K p gk w
 nq : ∀ i ∈ qd, i < n0 ∧ QkR Z n0 ops i = true ∧ ∃ o, ops[i]? = some o ∧ QbZ o = true ∧ Qgt Z n0 ops i o = true ∧ ∀ j ∈ KT o, j ∈ qd ∨ j ∈ ed
 ne : ∀ i ∈ ed, i < n0 ∧ QkR Z n0 ops i = false
 ag : ∀ i ∈ qd, dn i = false → QW P ops gk w i
section
variable {P : Program} {n0 : Nat} {ops : List Oper} {T : List (List Nat)} {K : Fr → World → Prop} {gk : Fr} {w : World} {qd ed : List Nat}
end
section
variable {P : Program} {N : Nat} {Q : Qbf} {f : Fr} {w : World}
end
end Go.Pw
