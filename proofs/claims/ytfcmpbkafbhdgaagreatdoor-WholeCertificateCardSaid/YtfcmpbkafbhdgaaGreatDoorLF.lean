/- -/
import Derived.Test.YtfcmpbkafbhdgaaGreatDoorLE
import Derived.Test.YtfcmpbkafbhdgaaGreatDoorLC
import Derived.Test.YtfcmpbkafbhdgaaGreatDoorLB
import Derived.Shelf.Strconv.Itoa3
import Derived.Test.YtfcmpbkafbhdgaaGreatDoorLD
set_option linter.unusedSimpArgs false
namespace Go.Pw
section
variable {P : Program} {ρ : Operand → Value} {o : Oper} {w : World} {K : Value → World → Prop} {T T' : TypeId} {x y : Operand}
end
end Go.Pw
/- -/
namespace Go.Pw
section
variable {P : Program} {ρ : Operand → Value} {o : Oper} {w w0 : World} {s : PHeap} {H : List Res} {K : Value → World → Prop} {T : TypeId}
theorem J9 {x i : Operand} {k : IntKind} {n y : Int} {q : ByteArray} (hT : P.underlying T = some .string) (ho : o.op = .index T x i) (hx : ρ x = .string q) (hi : ρ i = .int k n) (hy : QD (QJ q) n = some y) (hk : K (.int .u8 y) w) : Exec P ρ o w K := by
 obtain ⟨h0, hlt, hget⟩ := Qf hy
 refine Qia (v := .int .u8 y) ho hx hi ?_ hk
 obtain ⟨b, hb, rfl⟩ : ∃ b, q[n.toNat]? = some b ∧ y = (b.toNat : Int) := by
  unfold QJ at hget
  rw [List.getElem?_map, Option.map_eq_some_iff] at hget
  obtain ⟨b, hb, rfl⟩ := hget
  refine ⟨b, ?_, Z⟩
  have hl := (List.getElem?_eq_some_iff.1 hb).1
  rw [Array.getElem?_toList] at hb
  have hlt' : n.toNat < q.size := by rw [Array.length_toList] at hl; exact hl
  rw [getElem?_pos q n.toNat hlt', ← hb]
  obtain ⟨_, h2⟩ := Array.getElem?_eq_some_iff.1 hb
  rw [hb, ← h2]
  rfl
 simp only [Instr.index, asIntOf, Sem.run_bind, Sem.run_pure, Result.andThen_ok, run_underlying hT]
 rw [if_pos h0, hb]
 rfl
theorem QaA {α : Type} {E : Enc α} {b : Nat} {Te : TypeId} {cs : List Value} {y : α} (hS : St w0 s (.box b Te cs :: H) w) (h : E.rep s cs y) : ∃ t, PHeap.le s t ∧ St w0 t H w ∧ At t b 0 E y := by
 obtain ⟨bs, t, hp, hle, hbs, hS'⟩ := hS.freezeWith
 obtain ⟨rfl, hb⟩ := hp
 refine ⟨t, hle, hS', cs.toArray, Te, (0, 0), by rw [hbs b (by simp), hb], ?_⟩
 have h2 := E.mono hle h
 have hl := E.len h
 simp only [List.drop_zero]
 rw [List.take_of_length_le (by omega)]
 exact h2
theorem Exec.makeFunc {fn : Fn} {caps : List Operand} {vs : List Value} (ho : o.op = .makeFunc fn #[] caps.toArray) (hc : List.map ρ caps = vs) (hk : K (.func fn #[] vs.toArray) w) : Exec P ρ o w K := by
 refine .of_run (v := .func fn #[] vs.toArray) (w' := w) ?_ hk
 unfold execOp
 simp only [ho, Instr.makeFunc, Sem.run_bind, Sem.run_pure, Result.andThen_ok, List.map_toArray, hc]
 rfl
theorem Qdl {c : Operand} {f : FuncId} {fn : Func} {args : List Operand} {ts : Array TypeId} {vs cap all : List Value} (ho : o.op = .call { callee := .value c, args := args.toArray, argTypes := ts }) (hc : ρ c = .func (.func f) #[] cap.toArray)
  (hf : P.funcs[f]? = some fn) (hb : fn.body.isNone = false) (hn : (fn.name == "runtime.NumGoroutine") = false) (hargs : List.map ρ args = vs) (hall : vs ++ cap = all)
  (h : Calls P f all.toArray w fun e w' => ∃ v, e = .returned v ∧ K v w') : Exec P ρ o w K :=
 QfL ho hc hf hb hn hargs (by subst hall; simpa using h)
end
end Go.Pw
/- -/
namespace Go.Pw
section
variable {P : Program} {ρ : Operand → Value} {o : Oper} {w : World} {K : Value → World → Prop} {T T' E : TypeId} {x : Operand} {a : Option Addr} {n c : Nat}
theorem Qdq (hT : P.underlying T = some (.slice E)) (ho : o.op = .binOp .neq T x (.const (.slice none 0 0)) T') (hx : ρ x = .slice a n c) (hc : ρ (.const (.slice none 0 0)) = .slice none 0 0) (hk : K (.bool a.isSome) w) : Exec P ρ o w K :=
 YS (op := .neq) (a := .slice a n c) (b := .slice none 0 0) ho hx hc (by simp [eqGuard]) (by simp only [binOp]; cases a <;> simp [Qa5 w T E _ n c 0 0 hT]) hk
end
end Go.Pw
/- -/
namespace Go.Pw
section
variable {P : Program} {ρ : Operand → Value} {o : Oper} {w w0 : World} {s : PHeap} {H : List Res} {K : Value → World → Prop} {T Te : TypeId} {α : Type} {E : Enc α} {xs : List α} {v u u1 u2 : Value}
theorem QcW {x lo hi mx : Operand} {k1 k2 k3 : IntKind} {i j m : Int} {e by_ : Nat} (hS : St w0 s (.arr E Te v xs :: H) w) (hT : QA P T = some (e, E.sz, by_)) (ho : o.op = .slice T x (some lo) (some hi) (some mx)) (hx : ρ x = v) (h1 : ρ lo = .int k1 i) (h2 : ρ hi = .int k2 j) (h3 : ρ mx = .int k3 m)
  (h0 : 0 ≤ i) (hij : i ≤ j) (hjm : j ≤ m) (hm : m ≤ xs.length) (hpos : 0 < xs.length) (hk : ∀ u, K u w) : Exec P ρ o w K := by
 obtain ⟨g, cap, rfl, hcap⟩ := hS.arr_some hpos
 obtain ⟨q, hu, hi', hs, _⟩ := Qz hT
 have hmn : ((m.toNat : Nat) : Int) = m := by omega
 have hjn : ((j.toNat : Nat) : Int) = j := by omega
 refine .of_run (v := _) (w' := w) ?_ (hk (.slice (if m.toNat = i.toNat then some (⟨g, 0, none⟩ : Addr) else (some (⟨g, 0, none⟩ : Addr)).map (·.add (i.toNat * E.sz))) (j.toNat - i.toNat) (m.toNat - i.toNat)))
 unfold execOp
 simp only [ho, hx, h1, h2, h3, Option.map_some, Instr.sliceAt, Instr.slice, Instr.sliceBounds, Sem.run_bind, run_underlying hu, Result.andThen_ok, Sem.run_pure, JZ (P := P) (w := w) (k := k3) (i := m) (show 0 ≤ m by omega) (show m ≤ (cap : Int) by omega), JZ (P := P) (w := w) (k := k2) (i := j) (show 0 ≤ j by omega) (show j ≤ ((m.toNat : Nat) : Int) by omega), JZ (P := P) (w := w) (k := k1) (i := i) h0 (show i ≤ ((j.toNat : Nat) : Int) by omega)]
 simp [sizeOf, typeInfo, hi', hs]
theorem SubOf.head {g len cap m sz : Nat} (h : SubOf sz (.slice (some ⟨g, 0, none⟩) len cap) u 0 m) : u = .slice (some ⟨g, 0, none⟩) m cap ∧ (m ≤ len ∨ u = .slice (some ⟨g, 0, none⟩) len cap) := by
 rcases h with ⟨rfl, _, a, c, hv⟩ | ⟨g', cap', len', hv, a1, a2, rfl⟩
 ·cases hv
  exact ⟨Z, .inr Z⟩
 ·cases hv
  have hz : (if cap = 0 then 0 else 0 * sz) = 0 := by split <;> simp
  rw [hz]
  exact ⟨Z, .inl (by omega)⟩
theorem SubOf.tail {g len cap j n sz : Nat} (h : SubOf sz (.slice (some ⟨g, 0, none⟩) len cap) u j n) : ∃ off c, u = .slice (some ⟨g, off, none⟩) n c ∧ (n ≠ 0 → off = j * sz) := by
 rcases h with ⟨rfl, rfl, a, c, hv⟩ | ⟨g', cap', len', hv, a1, a2, rfl⟩
 ·cases hv
  exact ⟨0, _, Z, fun _ => by simp⟩
 ·cases hv
  refine ⟨_, _, Z, fun hn => ?_⟩
  rw [if_neg (by omega)]
theorem Qcd {x lo hi : Operand} {k1 k2 : IntKind} {l h : Int} {m e by_ : Nat} (hS : St w0 s (.arr E Te v xs :: H) w) (hpos : 0 < xs.length) (hsub : SubOf E.sz v u 0 m) (hT : QA P T = some (e, E.sz, by_)) (ho : o.op = .slice T x (some lo) (some hi) none) (hx : ρ x = u) (h1 : ρ lo = .int k1 l) (h2 : ρ hi = .int k2 h)
  (h0 : 0 ≤ l) (hlh : l ≤ h) (hh : h ≤ xs.length) (hk : ∀ u', SubOf E.sz v u' l.toNat (h.toNat - l.toNat) → K u' w) : Exec P ρ o w K := by
 obtain ⟨g, cap, rfl, hcap⟩ := hS.arr_some hpos
 obtain ⟨rfl, _⟩ := hsub.head
 obtain ⟨q, hu, hi', hs, _⟩ := Qz hT
 refine .of_run (v := .slice (if cap = l.toNat then some (⟨g, 0, none⟩ : Addr) else (some (⟨g, 0, none⟩ : Addr)).map (·.add (l.toNat * E.sz))) (h.toNat - l.toNat) (cap - l.toNat)) ?_ (hk _ (SubOf.mk (by omega) hcap))
 unfold execOp
 simp only [ho, hx, h1, h2, Option.map_some, Option.map_none, Instr.sliceAt, Instr.slice, Instr.sliceBounds, Sem.run_bind, run_underlying hu, Result.andThen_ok, Sem.run_pure, JZ (P := P) (w := w) (k := k2) (i := h) (show 0 ≤ h by omega) (show h ≤ (cap : Int) by omega), JZ (P := P) (w := w) (k := k1) (i := l) h0 (show l ≤ ((h.toNat : Nat) : Int) by omega)]
 simp [sizeOf, typeInfo, hi', hs]
theorem Qbp {x y : Operand} {i j by_ : Nat} (hS : St w0 s (.arr E Te v xs :: H) w) (hT : QA P T = some (Te, E.sz, by_)) (hu1 : SubOf E.sz v u1 0 i) (hu2 : SubOf E.sz v u2 j (xs.length - j)) (hij : i ≤ j) (hj : j ≤ xs.length) (hpos : 0 < xs.length)
  (ho : o.op = .call { callee := .builtin .append, args := #[x, y], argTypes := #[T, T] }) (hx : ρ x = u1) (hy : ρ y = u2)
  (hk : ∀ u w', SubOf E.sz v u 0 (i + (xs.length - j)) → St w0 s (.arr E Te v (xs.take i ++ xs.drop j ++ xs.drop (xs.length - (j - i))) :: H) w' → K u w') : Exec P ρ o w K := by
 obtain ⟨q, hu, hi, hsz, hbs⟩ := Qz hT
 obtain ⟨g, cap, rfl, hcap⟩ := hS.arr_some hpos
 obtain ⟨rfl, _⟩ := hu1.head
 obtain ⟨off, c2, rfl, hoff⟩ := hu2.tail
 have hS0 := hS
 obtain ⟨bs, hn, hss, b1, b2, e, ⟨cells, h1, h2, rfl⟩, h3⟩ := hS.own
 rcases h2.2 with ⟨hv, _⟩ | ⟨g', cap', cur, hv, hbg, hg, hnc, hcm, hcs, htake⟩
 ·cases hv
 cases hv
 have hcl := h1.len
 have hd := h1.drop j
 have Yn : (cells.drop (j * E.sz)).length = (xs.length - j) * E.sz := hd.len.trans (by rw [List.length_drop])
 have m1 : j * E.sz ≤ xs.length * E.sz := Nat.mul_le_mul_right _ hj
 have m2 : xs.length * E.sz ≤ cur.size := by rw [hcs]; exact Nat.mul_le_mul_right _ hnc
 have m3 : i * E.sz + (xs.length - j) * E.sz ≤ xs.length * E.sz := by rw [← Nat.add_mul]; exact Nat.mul_le_mul_right _ (by omega)
 have hcell : ∀ p u, (cells.drop (j * E.sz))[p]? = some u → w.cell? ((⟨g, off, none⟩ : Addr).add p) = some u := by
  intro p u hp
  have hplt : p < (cells.drop (j * E.sz)).length := (List.getElem?_eq_some_iff.1 hp).1
  have hne : xs.length - j ≠ 0 := by
   intro h0
   rw [Yn, h0] at hplt
   simp at hplt
  rw [hoff hne, Addr.add_lit]
  rw [List.getElem?_drop, ← htake, List.getElem?_take] at hp
  split at hp
  ·simp only [World.cell?, hg, Option.isSome_none, Bool.false_eq_true, if_false]
   rw [← Array.getElem?_toList]
   exact hp
  ·cases hp
 have hrun := run_append_room (P := P) w T o.type Te q hu hi g i cap cur hg ⟨g, off, none⟩ (xs.length - j) c2 (cells.drop (j * E.sz)) (by rw [Yn, hsz]) hcell hd.one (by omega) (by rw [Yn, hsz]; omega)
 rw [Yn, hsz] at hrun
 refine .of_run (v := .slice (some ⟨g, 0, none⟩) (i + (xs.length - j)) cap) (w' := w.setRow g (cur.toList.take (i * E.sz) ++ cells.drop (j * E.sz) ++ cur.toList.drop (i * E.sz + (xs.length - j) * E.sz)).toArray) ?_ (hk _ _ ?_ ?_)
 ·unfold execOp
  simp only [ho, resolve, invoke, builtin, Sem.run_bind, Sem.run_pure, Result.andThen_ok, List.map_toArray, List.map_cons, List.map_nil, hx, hy, hrun]
 ·refine .inr ⟨g, cap, xs.length, Z, by omega, hcap, ?_⟩
  have hz : (if cap = 0 then 0 else 0 * E.sz) = 0 := by split <;> simp
  rw [hz]
  rfl
 ·refine hS0.turn Z Z Z (Nat.le_refl _) (by rw [Qau]; exact Nat.le_refl _) ?_
  rintro c1 ⟨cells', k1, k2, rfl⟩
  rcases k2.2 with ⟨hv, _⟩ | ⟨g', cap', cur', hv, _, hg', _, _, _, htake'⟩
  ·cases hv
  cases hv
  rw [hg] at hg'
  cases hg'
  have hce : cells' = cells := by rw [← htake, ← htake']
  subst hce
  have hlen : (xs.take i ++ xs.drop j ++ xs.drop (xs.length - (j - i))).length = xs.length := by simp; omega
  have hmm : i * E.sz + (xs.length - j) * E.sz = (xs.length - (j - i)) * E.sz := by rw [← Nat.add_mul]; congr 1; omega
  refine ⟨[g], ⟨cells'.take (i * E.sz) ++ cells'.drop (j * E.sz) ++ cells'.drop ((xs.length - (j - i)) * E.sz), ((h1.take i).append hd).append (h1.drop _), ⟨?_, .inr ⟨g, cap, _, by rw [hlen], Nat.zero_le _, setRow_heap w g cur _ Te _ hg, by rw [hlen]; exact hnc, hcm, ?_, ?_⟩⟩, by simp [Value.ownBlock]⟩, by simp, fun x hx => .inl (by simpa [Value.ownBlock] using hx), fun x _ hx => setRow_other w g x _ (by simpa [Value.ownBlock] using hx)⟩
  ·have := (((h1.take i).append hd).append (h1.drop (xs.length - (j - i)))).len
   rw [this]
  ·rw [← hcs]
   simp only [List.size_toArray, List.length_append, List.length_take, List.length_drop, Array.length_toList, hcl, Nat.sub_mul]
   have e1 : (xs.length - j) * E.sz = xs.length * E.sz - j * E.sz := Nat.sub_mul _ _ _
   omega
  ·rw [hlen, ← htake, List.toList_toArray, ← hmm]
   rw [htake]
   have := Qhy cur.toList (cells'.drop (j * E.sz)) (a := i * E.sz) (b := (xs.length - j) * E.sz) (c := xs.length * E.sz) m3 (by simpa using m2) (by simpa using Yn)
   rw [htake] at this
   exact this
end
end Go.Pw
/- -/
namespace Go.Pw
open Go.Proofs
/-! ### the table of powers of ten -/
def TabS (P : Program) (s : PHeap) : Prop := ∃ g T fz, P.globalNamed "internal/strconv.uint64pow10" = some g ∧ s g = some (.cells (Lib.pow10Tab.map fun z => Value.int .u64 z).toArray T fz)
theorem TabS.mono {P : Program} {s t : PHeap} (h : TabS P s) (l : PHeap.le s t) : TabS P t := let ⟨g, T, fz, h1, h2⟩ := h; ⟨g, T, fz, h1, l _ _ h2⟩
theorem TabS.here {P : Program} {s : PHeap} {w0 w : World} {H : List Res} (h : TabS P s) (hS : St w0 s H w) : Lib.TabIs P w "internal/strconv.uint64pow10" .u64 Lib.pow10Tab := by
 obtain ⟨g, T, fz, h1, h2⟩ := h
 simp [Lib.TabIs, World.var?, h1, hS.stay g _ h2]
theorem Qi4 {P : Program} {W : World} (h : Lib.TabIs P W "internal/strconv.uint64pow10" .u64 Lib.pow10Tab) : TabS P (σH W) := by
 unfold Lib.TabIs World.var? at h
 obtain ⟨g, h1, h2⟩ := Option.bind_eq_some_iff.1 h
 split at h2
 ·rename_i cs T fz he
  cases h2
  exact ⟨g, T, fz, h1, he⟩
 ·cases h2
section
variable {P : Program} {ρ : Operand → Value} {o : Oper} {w w0 : World} {s : PHeap} {H : List Res} {K : Value → World → Prop} {T e : TypeId}
theorem St.grown (hS : St w0 s H w) (k : Nat) (os : Array Obj) : St w0 s H (Sort.grow (w.drewN k) os) := by
 have hb : ∀ b, b < w.heap.size → (Sort.grow (w.drewN k) os).heap[b]? = w.heap[b]? := fun b hb => by
  rw [Sort.heap_grow_old _ _ (by simpa using hb)]; rfl
 refine ⟨hS.os, hS.tape, hS.output, Nat.le_trans hS.drawn (by simp [Sort.grow, World.drewN]), Nat.le_trans hS.size (by simp [Sort.grow, World.drewN]), fun b o hbo => ?_, ?_⟩
 ·have := hS.stay b o hbo
  rw [hb b (Array.getElem?_eq_some_iff.1 this).1]
  exact this
 ·obtain ⟨bs, hn, hs, h⟩ := hS.own
  exact ⟨bs, hn, hs, h.loc fun b hm => hb b (h.lt b hm)⟩
/-! ### a row of builders -/
variable {g n : Nat} {oss : List (Option (List Int))}
/-! ### pure words -/
/-! ### the operations -/
end
end Go.Pw
/- -/
set_option linter.unusedVariables false
namespace Go.Pw
section
variable {P : Program} {ρ : Operand → Value} {o : Oper} {w w0 : World} {s : PHeap} {H : List Res} {K : Value → World → Prop} {T : TypeId}
end
end Go.Pw
/- -/
namespace Go.Pw
section
variable {P : Program} {ρ : Operand → Value} {o : Oper} {w w0 : World} {K : Value → World → Prop} {T : TypeId} {s : PHeap} {H : List Res}
end
end Go.Pw
/- -/
namespace Go.Pw
def Qaq (Zq : List Nat) (n0 : Nat) (ops : List Oper) (i : Nat) : Bool := isQ n0 ops i && !Zq.contains i
def Qij (Zq : List Nat) (n0 : Nat) (ops : List Oper) (i : Nat) (o : Oper) (u : Nat) : Bool := ((List.range n0).all fun k => !KH ops k u || (!Qaq Zq n0 ops k && (match ops[k]? with | some ok => (JI ok).contains i | none => false))) || (JI o).any fun k => Nat.blt k n0 && KH ops k u
def Qar (Zq : List Nat) (n0 : Nat) (ops : List Oper) (i : Nat) (o : Oper) : Bool :=
 (o.op.operands.toList.all fun x => match x with | .tmp u => Qij Zq n0 ops i o u | _ => true) && (match o.guard with | some (j, _) => (JI o).contains j && Nat.blt j n0 | none => true) && Qi8 o
def Qcn (Zq : List Nat) (n0 : Nat) (ops : List Oper) (T : List (List Nat)) (nx : List Nat) (qd ed : List Nat) : Bool :=
 (List.range n0).all fun i => qd.contains i || ed.contains i || nx.contains i || (QcO T i).any fun j => !Qaq Zq n0 ops j && !qd.contains j && !ed.contains j
def Jt (Zq : List Nat) (n0 : Nat) (ops : List Oper) (T : List (List Nat)) : DPlan → Option (List Nat) → List Nat → List Nat → Bool
 | .done, nx, qd, ed => nx.isNone && (List.range n0).all fun i => qd.contains i || ed.contains i
 | .q i r, nx, qd, ed => nx.isNone && Nat.blt i n0 && (match ops[i]? with
  | some o => Qaq Zq n0 ops i && Qbb o && !qd.contains i && ((JI o).all fun j => qd.contains j || ed.contains j) && Qar Zq n0 ops i o
  | none => false) && Jt Zq n0 ops T r none (i :: qd) ed
 | .e i ag r, nx, qd, ed => Nat.blt i n0 && (match ops[i]? with
  | some o => !Qaq Zq n0 ops i && !ed.contains i && ((JI o).all fun j => qd.contains j || ed.contains j) && Qar Zq n0 ops i o
  | none => false) && Qcn Zq n0 ops T (nx.getD [i]) qd ed && (qd.all fun j => ag.contains j || (QcO T i).contains j || ed.any fun k => (QcO T k).contains j) && Jt Zq n0 ops T r none qd (i :: ed)
 | .alt p q, nx, qd, ed => Jt Zq n0 ops T p (some (nx.getD (Jh p ++ Jh q))) qd ed && Jt Zq n0 ops T q (some (nx.getD (Jh p ++ Jh q))) qd ed
def Qlx (Zq : List Nat) (n0 : Nat) (ops : List Oper) (p : DPlan) : Bool := let T := QgO ops; QgX ops T && Nat.beq T.length ops.length && Jt Zq n0 ops T p none [] []
theorem Qkg {Zq : List Nat} {n0 : Nat} {ops : List Oper} {i : Nat} {o : Oper} {u : Nat} {S : Nat → Prop} {g g' : Fr} (h : Qij Zq n0 ops i o u = true) (hS : ∀ j ∈ JI o, S j) (hA : ∀ k ok, k < n0 → Qaq Zq n0 ops k = false → ops[k]? = some ok → i ∈ JI ok → S k) (ha : Agr n0 ops S g g') : g u = g' u := by
 simp only [Qij, Bool.or_eq_true, List.all_eq_true, List.mem_range, Bool.not_eq_true', List.any_eq_true, Bool.and_eq_true] at h
 rcases h with h | ⟨k, hk, hk0, hd⟩
 ·by_cases hn : ∀ k, k < n0 → KH ops k u = false
  ·exact ha.1 u hn
  ·obtain ⟨k, hk, hd⟩ : ∃ k, k < n0 ∧ KH ops k u = true := by
    refine Classical.byContradiction fun hc => hn fun k hk => ?_
    cases hd : KH ops k u with
    | false => rfl
    | true => exact absurd ⟨k, hk, hd⟩ hc
   rcases h k hk with h | ⟨h1, h2⟩
   ·rw [hd] at h; cases h
   ·cases hok : ops[k]? with
    | none => rw [hok] at h2; cases h2
    | some ok =>
     rw [hok] at h2
     exact ha.2 k u hk (hA k ok hk h1 hok (by simpa using h2)) hd
 ·exact ha.2 k u (by simpa [Nat.blt_eq] using hk0) (hS k hk) hd
theorem Qc6 {Zq : List Nat} {n0 : Nat} {ops : List Oper} {i : Nat} {o : Oper} {S : Nat → Prop} {g g' : Fr} (h : Qar Zq n0 ops i o = true) (hS : ∀ j ∈ JI o, S j) (hA : ∀ k ok, k < n0 → Qaq Zq n0 ops k = false → ops[k]? = some ok → i ∈ JI ok → S k) (ha : Agr n0 ops S g g') : execOp (ev g) o = execOp (ev g') o := by
 simp only [Qar, Bool.and_eq_true, List.all_eq_true] at h
 refine execOp_congr o ?_ ?_
 ·intro cs b he; have := h.2; simp [Qi8, he] at this
 ·intro x hx
  have := h.1.1 x (by simpa using hx)
  cases x with
  | tmp u => exact Qkg this hS hA ha
  | _ => rfl
theorem Qav {Zq : List Nat} {n0 : Nat} {ops : List Oper} {i : Nat} {o : Oper} {S : Nat → Prop} {g g' : Fr} (h : Qar Zq n0 ops i o = true) (hS : ∀ j ∈ JI o, S j) (ha : Agr n0 ops S g g')  :
  Region.wanted o (QE ops.toArray g) = Region.wanted o (QE ops.toArray g') := by
 simp only [Qar, Bool.and_eq_true] at h
 unfold Region.wanted
 cases hg : o.guard with
 | none => rfl
 | some gw =>
  obtain ⟨j, want⟩ := gw
  have h2 := h.1.2
  simp only [hg, Bool.and_eq_true] at h2
  have hj : j ∈ JI o := by simpa using h2.1
  have hj0 : j < n0 := by simpa [Nat.blt_eq] using h2.2
  have : QE ops.toArray g j = QE ops.toArray g' j := by
   unfold QE
   cases hd : (ops.toArray[j]?).bind (·.dst) with
   | none => rfl
   | some d =>
    have e1 : KH ops j d = true := by
     unfold KH
     have : (ops[j]?).bind (·.dst) = some d := by simpa using hd
     rw [this]; simp
    have he := ha.2 j d hj0 (hS j hj) e1
    simp only [he]
  simp only [this]
structure CanonZ (Zq : List Nat) (P : Program) (n0 : Nat) (ops : List Oper) (T : List (List Nat)) (K : Fr → World → Prop) (p : DPlan) (gk : Fr) (w : World) (qd ed : List Nat) (dn : Nat → Bool) : Prop where
 ok : Jt Zq n0 ops T p none qd ed = true
 dl : DL P ops K p gk w
 nq : ∀ i ∈ qd, i < n0 ∧ Qaq Zq n0 ops i = true ∧ ∃ o, ops[i]? = some o ∧ Qbb o = true ∧ Qar Zq n0 ops i o = true ∧ ∀ j ∈ JI o, j ∈ qd ∨ j ∈ ed
 ne : ∀ i ∈ ed, i < n0 ∧ Qaq Zq n0 ops i = false
 ag : ∀ i ∈ qd, dn i = false → QB P ops gk w i
theorem Qd4 {Zq : List Nat} {n0 : Nat} {ops : List Oper} {i : Nat} {o : Oper} (h : Qaq Zq n0 ops i = true) (ho : ops[i]? = some o) : ∃ d, o.dst = some d := by
 unfold Qaq at h
 exact Qdx (by simp only [Bool.and_eq_true] at h; exact h.1) ho
theorem QfK {Zq : List Nat} {P : Program} {n0 : Nat} {ops : List Oper} {S : Nat → Prop} {g g' : Fr} {w : World} {j : Nat} {o : Oper} (hj : j < n0) (ho : ops[j]? = some o) (hk : Qar Zq n0 ops j o = true) (hS : ∀ k ∈ JI o, S k) (hA : ∀ k ok, k < n0 → Qaq Zq n0 ops k = false → ops[k]? = some ok → j ∈ JI ok → S k) (hSj : S j) (hd : ∃ d, o.dst = some d) (ha : Agr n0 ops S g g') (h : QB P ops g w j) : QB P ops g' w j := by
 intro o' ho'
 rw [ho] at ho'
 cases ho'
 have h1 := h o ho
 obtain ⟨d, hd⟩ := hd
 have hval : g (YH ops j) = g' (YH ops j) := by rw [Qb1 ho hd]; exact ha.2 j d hj hSj (Qb0 ho hd)
 rw [Qav hk hS ha, hval] at h1
 split
 ·rename_i hw
  rw [if_pos hw] at h1
  exact Qai (Qc6 hk hS hA ha) h1
 ·rename_i hw
  rw [if_neg hw] at h1
  exact h1
theorem Qeq {Zq : List Nat} {P : Program} {n0 : Nat} {ops : List Oper} {T : List (List Nat)} {K : Fr → World → Prop} (hI : Qjg n0 ops) {w : World} {ed : List Nat} {dn : Nat → Bool} : ∀ (p : DPlan) (gk : Fr) (qd : List Nat), CanonZ Zq P n0 ops T K p gk w qd ed dn →
  ∃ p' gk' qd', CanonZ Zq P n0 ops T K p' gk' w qd' ed dn ∧ Qht p' ∧ (∀ i ∈ qd, i ∈ qd') ∧ Agr n0 ops (fun i => (i ∈ qd ∨ i ∈ ed) ∨ Qaq Zq n0 ops i = false) gk gk'
 | .done, gk, qd, h => ⟨.done, gk, qd, h, trivial, fun _ h => h, fun _ _ => rfl, fun _ _ _ _ _ => rfl⟩
 | .alt p q, gk, qd, h => ⟨.alt p q, gk, qd, h, trivial, fun _ h => h, fun _ _ => rfl, fun _ _ _ _ _ => rfl⟩
 | .e i ag r, gk, qd, h => ⟨.e i ag r, gk, qd, h, trivial, fun _ h => h, fun _ _ => rfl, fun _ _ _ _ _ => rfl⟩
 | .q i r, gk, qd, h => by
  obtain ⟨o, ho, Yn⟩ := h.dl
  have hok := h.ok
  simp only [Jt, Bool.and_eq_true, ho] at hok
  obtain ⟨⟨⟨_, hi⟩, ⟨⟨⟨hiq, hq⟩, hnq⟩, hdep⟩, hopn⟩, hrest⟩ := hok
  have hi' : i < n0 := by simpa [Nat.blt_eq] using hi
  have hnq' : i ∉ qd := by simpa using hnq
  have hne : i ∉ ed := fun hm => by have := (h.ne i hm).2; rw [hiq] at this; cases this
  have hnS : ¬ ((i ∈ qd ∨ i ∈ ed) ∨ Qaq Zq n0 ops i = false) := by
   rintro ((h | h) | h)
   ·exact hnq' h
   ·exact hne h
   ·rw [hiq] at h; cases h
  have hdeps : ∀ j ∈ JI o, j ∈ qd ∨ j ∈ ed := by
   intro j hj
   have := List.all_eq_true.1 hdep j hj
   simpa using this
  obtain ⟨d, hd⟩ := Qd4 hiq ho
  have key : ∀ v, (∀ g', g' = QZ gk o.dst v → QB P ops g' w i) → DL P ops K r (QZ gk o.dst v) w → ∃ p' gk' qd', CanonZ Zq P n0 ops T K p' gk' w qd' ed dn ∧ Qht p' ∧ (∀ i ∈ qd, i ∈ qd') ∧ Agr n0 ops (fun i => (i ∈ qd ∨ i ∈ ed) ∨ Qaq Zq n0 ops i = false) gk gk' := by
   intro v hag Yn
   have hA : Agr n0 ops (fun i => (i ∈ qd ∨ i ∈ ed) ∨ Qaq Zq n0 ops i = false) gk (QZ gk o.dst v) := Qc4 hI hi' ho hnS
   have hc1 : CanonZ Zq P n0 ops T K r (QZ gk o.dst v) w (i :: qd) ed dn := by
    refine ⟨hrest, Yn, ?_, h.ne, ?_⟩
    ·intro j hj
     rcases List.mem_cons.1 hj with e | hj
     ·rw [e]; exact ⟨hi', hiq, o, ho, hq, hopn, fun k hk => (hdeps k hk).imp (List.mem_cons_of_mem _) (fun h => h)⟩
     ·obtain ⟨hj0, hjq, oj, hoj, hqj, hopj, hdj⟩ := h.nq j hj
      exact ⟨hj0, hjq, oj, hoj, hqj, hopj, fun k hk => (hdj k hk).imp (List.mem_cons_of_mem _) (fun h => h)⟩
    ·intro j hj hdn
     rcases List.mem_cons.1 hj with e | hj
     ·rw [e]; exact hag _ rfl
     ·obtain ⟨hj0, hjq, oj, hoj, hqj, hopj, hdj⟩ := h.nq j hj
      exact QfK (S := fun i => (i ∈ qd ∨ i ∈ ed) ∨ Qaq Zq n0 ops i = false) hj0 hoj hopj (fun k hk => .inl (hdj k hk)) (fun _ _ _ hk _ _ => .inr hk) (.inl (.inl hj)) (Qd4 hjq hoj) hA (h.ag j hj hdn)
   obtain ⟨p', gk', qd', hc, h1, h2, h3⟩ := Qeq hI r (QZ gk o.dst v) (i :: qd) hc1
   exact ⟨p', gk', qd', hc, h1, fun j hj => h2 j (List.mem_cons_of_mem _ hj), hA.trans h3 (fun j hj => hj.imp (fun h => h.imp (List.mem_cons_of_mem _) (fun h => h)) (fun h => h))⟩
  have hA : ∀ v, Agr n0 ops (fun i => (i ∈ qd ∨ i ∈ ed) ∨ Qaq Zq n0 ops i = false) gk (QZ gk o.dst v) := fun v => Qc4 hI hi' ho hnS
  have hval : ∀ v, QZ gk o.dst v (YH ops i) = v := fun v => by rw [Qb1 ho hd, hd]; simp only [QZ, Qcm]
  have hd2 : ∀ j ∈ JI o, (j ∈ qd ∨ j ∈ ed) ∨ Qaq Zq n0 ops j = false := fun j hj => .inl (hdeps j hj)
  split at Yn
  ·rename_i hw
   obtain ⟨v, w', hrun, rfl, hr⟩ := Qf5 hq Yn
   refine key v ?_ hr
   rintro g' rfl o' ho'
   rw [ho] at ho'; cases ho'
   rw [← Qav hopn hd2 (hA v), if_pos hw]
   refine .of_run (v := v) ?_ ⟨Z, (hval v).symm⟩
   rw [← Qc6 hopn hd2 (fun _ _ _ hk _ _ => .inr hk) (hA v)]
   exact hrun
  ·rename_i hw
   refine key undef ?_ Yn
   rintro g' rfl o' ho'
   rw [ho] at ho'; cases ho'
   rw [← Qav hopn hd2 (hA undef), if_neg hw]
   exact hval undef
section
variable {P : Program} {n0 : Nat} {ops : List Oper} {T : List (List Nat)} {K : Fr → World → Prop} {gk : Fr} {w : World} {qd ed : List Nat}
theorem QcC {Zq : List Nat} : ∀ (p : DPlan) (l : List Nat), Jt Zq n0 ops T p (some l) qd ed = true → DL P ops K p gk w →
  Qcn Zq n0 ops T l qd ed = true ∧ Jh p ≠ [] ∧ ∀ i ∈ Jh p, ∃ ag r, Jt Zq n0 ops T (.e i ag r) (some l) qd ed = true ∧ DL P ops K (.e i ag r) gk w
 | .done, l, h, _ => by simp [Jt] at h
 | .q i r, l, h, _ => by simp [Jt] at h
 | .e i ag r, l, h, hd => by
  refine ⟨?_, by simp [Jh], ?_⟩
  ·simp only [Jt, Bool.and_eq_true, Option.getD_some] at h
   exact h.1.1.2
  ·intro j hj
   simp only [Jh, List.mem_singleton] at hj
   subst hj
   exact ⟨ag, r, h, hd⟩
 | .alt p q, l, h, hd => by
  simp only [Jt, Bool.and_eq_true, Option.getD_some] at h
  obtain ⟨a1, a2, a3⟩ := QcC p l h.1 hd.1
  obtain ⟨b1, b2, b3⟩ := QcC q l h.2 hd.2
  refine ⟨a1, by simp [Jh, a2], ?_⟩
  intro j hj
  simp only [Jh, List.mem_append] at hj
  rcases hj with hj | hj
  ·exact a3 j hj
  ·exact b3 j hj
theorem Qf6 {Zq : List Nat} (p : DPlan) (hn : Qht p) (h : Jt Zq n0 ops T p none qd ed = true) (hd : DL P ops K p gk w) :
  p = .done ∨ (Qcn Zq n0 ops T (Jh p) qd ed = true ∧ Jh p ≠ [] ∧ ∀ i ∈ Jh p, ∃ ag r, Jt Zq n0 ops T (.e i ag r) (some (Jh p)) qd ed = true ∧ DL P ops K (.e i ag r) gk w) := by
 cases p with
 | done => exact .inl rfl
 | q => exact hn.elim
 | e i ag r =>
  refine .inr ?_
  exact QcC (.e i ag r) [i] (by simpa only [Jt, Option.getD_some, Option.getD_none] using h) hd
 | alt p q =>
  refine .inr ?_
  exact QcC (.alt p q) (Jh p ++ Jh q) (by simpa only [Jt, Option.getD_some, Option.getD_none] using h) hd
end
section
variable {P : Program} {N : Nat} {Q : QaE} {f : Fr} {w : World}
theorem Qm4 {Zq : List Nat} {id n0 : Nat} {ops : List Oper} (p : DPlan) (hm : P.follows .mixedOrders = true) (hok : Qc3 N n0 ops = true) (hp : Qlx Zq n0 ops p = true)
  (h : DL P ops (fun g w' => WL P N ops.toArray Q (ops.drop n0) g w') p f w.drew) : W P N (.region id ops.toArray true) Q f w := by
 have hok0 := hok
 simp only [Qc3, Bool.and_eq_true, decide_eq_true_eq, List.all_eq_true, Bool.or_eq_true] at hok
 obtain ⟨⟨⟨⟨⟨hn0, hwait⟩, hdst⟩, _⟩, hnodup⟩, hback⟩ := hok
 have hn0' : n0 ≤ ops.length := by simpa [Nat.ble_eq] using hn0
 have hI : Qjg n0 ops := by
  refine ⟨fun i hi => ⟨ops[i]'(by omega), by simp [show i < ops.length by omega]⟩, fun i j oi oj d hi hj hoi hoj hdi hdj => ?_⟩
  exact Qim (f := fun o : Oper => o.dst) hnodup (by rw [List.getElem?_take, if_pos hi]; exact hoi) (by rw [List.getElem?_take, if_pos hj]; exact hoj) hdi hdj
 have hb : ∀ (i : Nat) (o : Oper), ops[i]? = some o → ∀ j ∈ JI o, j < i := by
  intro i o ho j hj
  obtain ⟨e, he, hbi, rfl⟩ := Qd2.1 hj
  have hi : i < ops.length := (List.getElem?_eq_some_iff.1 ho).1
  have := hback i (by simpa using hi)
  simp only [ho] at this
  have := Array.all_eq_true'.1 this e he
  simpa [Nat.blt_eq, hbi] using this
 simp only [Qlx, Bool.and_eq_true] at hp
 obtain ⟨⟨hT, _⟩, hpl⟩ := hp
 generalize QgO ops = T at hT hpl
 let K : Fr → World → Prop := fun g w' => WL P N ops.toArray Q (ops.drop n0) g w'
 let I : (Nat → Bool) → Fr → World → Prop := fun dn g w => ∃ p gk qd ed, CanonZ Zq P n0 ops T K p gk w qd ed dn ∧ Qht p ∧ (∀ i, dn i = true → i < n0 ∧ (i ∈ qd ∨ i ∈ ed)) ∧ (∀ i ∈ ed, dn i = true) ∧ Agr n0 ops (fun i => dn i = true ∨ Qaq Zq n0 ops i = false) g gk ∧
  (∀ i o, dn i = true → ops[i]? = some o → ∀ j ∈ JI o, dn j = true)
 refine QiY hm hok0 I ?_ ?_ ?_
 ·obtain ⟨p', gk', qd', hc, h1, _, h3⟩ := Qeq (P := P) (K := K) (T := T) hI (w := w.drew) (ed := []) (dn := fun _ => false) p f [] ⟨hpl, h, by simp, by simp, by simp⟩
  exact ⟨p', gk', qd', [], hc, h1, by simp, by simp, ⟨h3.1, fun i d hi hS hd => h3.2 i d hi (hS.elim (fun h => by cases h) .inr) hd⟩, by simp⟩
 ·rintro i o dn g w hi ho hdn hdeps _ ⟨p, gk, qd, ed, hc, hnq, hd1, hd2, hagr, hdc⟩
  have hdepdn : ∀ j ∈ JI o, dn j = true := by
   intro j hj
   obtain ⟨e, he, hbi, rfl⟩ := Qd2.1 hj
   exact hdeps e he hbi
  have hdepS : ∀ j ∈ JI o, dn j = true ∨ Qaq Zq n0 ops j = false := fun j hj => .inl (hdepdn j hj)
  have hanc := QgN hT hdc hb i o ho hdepdn
  have hnoted : i ∉ ed := fun hm => by have := hd2 i hm; rw [hdn] at this; cases this
  have heff : ∀ j, Qaq Zq n0 ops j = false → dn j = true → j ∈ ed := by
   intro j hj hjd
   rcases (hd1 j hjd).2 with hm | hm
   ·have h5 := (hc.nq j hm).2.1
    rw [hj] at h5; cases h5
   ·exact hm
  have hdc' : ∀ k ok, (if k = i then true else dn k) = true → ops[k]? = some ok → ∀ j ∈ JI ok, (if j = i then true else dn j) = true := by
   intro k ok hk hok j hj
   by_cases e : k = i
   ·subst e
    rw [ho] at hok; cases hok
    have := hdepdn j hj
    split <;> first | rfl | exact this
   ·rw [if_neg e] at hk
    have := hdc k ok hk hok j hj
    split <;> first | rfl | exact this
  have hnode := Qf6 p hnq hc.ok hc.dl
  have hstage : ∀ l, Qcn Zq n0 ops T l qd ed = true → i ∈ qd ∨ i ∈ l := by
   intro l hst
   simp only [Qcn, List.all_eq_true, List.mem_range, Bool.or_eq_true, List.any_eq_true, Bool.and_eq_true] at hst
   rcases hst i hi with ((h | h) | h) | ⟨j, hj, ⟨he, _⟩, hn⟩
   ·exact .inl (by simpa using h)
   ·exact (hnoted (by simpa using h)).elim
   ·exact .inr (by simpa using h)
   ·have := heff j (by simpa using he) (hanc j hj)
    simp [this] at hn
  have hdoneq : Jt Zq n0 ops T .done none qd ed = true → i ∈ qd := by
   intro hok
   simp only [Jt, Bool.and_eq_true, List.all_eq_true, List.mem_range, Bool.or_eq_true] at hok
   rcases hok.2 i hi with h | h
   ·simpa using h
   ·exact (hnoted (by simpa using h)).elim
  cases hq : Qaq Zq n0 ops i with
  | true =>
   have hiq : i ∈ qd := by
    rcases hnode with e | ⟨hst, _, hsp⟩
    ·subst e; exact hdoneq hc.ok
    ·rcases hstage _ hst with h | h
     ·exact h
     ·obtain ⟨ag, r, hok, _⟩ := hsp i h
      simp [Jt, ho, hq] at hok
   obtain ⟨_, _, o', ho', _, hopn, _⟩ := hc.nq i hiq
   rw [ho] at ho'; cases ho'
   have hag := hc.ag i hiq hdn o ho
   obtain ⟨d, hd⟩ := Qd4 hq ho
   rw [← Qav hopn hdepS hagr] at hag
   have key : ∀ v, v = gk (YH ops i) → I (fun j => if j = i then true else dn j) (QZ g o.dst v) w := by
    rintro v rfl
    refine ⟨p, gk, qd, ed, ⟨hc.ok, hc.dl, hc.nq, hc.ne, fun j hj hdj => hc.ag j hj ?_⟩, hnq, ?_, ?_, ⟨?_, ?_⟩, hdc'⟩
    ·by_cases e : j = i
     ·simp only [if_pos e] at hdj; cases hdj
     ·simp only [if_neg e] at hdj; exact hdj
    ·intro j hj
     by_cases e : j = i
     ·rw [e]; exact ⟨hi, .inl hiq⟩
     ·simp only [if_neg e] at hj; exact hd1 j hj
    ·intro j hj
     by_cases e : j = i
     ·simp only [if_pos e]
     ·simp only [if_neg e]; exact hd2 j hj
    ·intro n hn
     have hne : n ≠ d := by rintro rfl; have := hn i hi; rw [Qb0 ho hd] at this; cases this
     rw [hd]; simp only [QZ, QbA _ _ hne]
     exact hagr.1 n hn
    ·intro j dj hj hjd hdj
     by_cases e : dj = d
     ·subst e
      rw [hd, Qb1 ho hd]; simp only [QZ, Qcm]
     ·have hji : j ≠ i := by
       rintro rfl
       obtain ⟨oj, hoj, hdj'⟩ := Qb4 hdj
       rw [ho] at hoj; cases hoj; rw [hd] at hdj'; cases hdj'; exact e rfl
      have hjd' : dn j = true ∨ Qaq Zq n0 ops j = false := by simp only [if_neg hji] at hjd; exact hjd
      rw [hd]; simp only [QZ, QbA _ _ e]
      exact hagr.2 j dj hj hjd' hdj
   split
   ·rename_i hw
    rw [if_pos hw] at hag
    refine (Qai (Qc6 hopn hdepS (fun _ _ _ hk _ _ => .inr hk) hagr).symm hag).mono ?_
    rintro v w' ⟨rfl, hv⟩
    exact key v hv
   ·rename_i hw
    rw [if_neg hw] at hag
    exact key undef hag.symm
  | false =>
   have hniq : i ∉ qd := fun hm => by have := (hc.nq i hm).2.1; rw [hq] at this; cases this
   obtain ⟨l, ag, r, hok, Yn⟩ : ∃ l ag r, Jt Zq n0 ops T (.e i ag r) (some l) qd ed = true ∧ DL P ops K (.e i ag r) gk w := by
    rcases hnode with e | ⟨hst, _, hsp⟩
    ·subst e; exact (hniq (hdoneq hc.ok)).elim
    ·rcases hstage _ hst with h | h
     ·exact (hniq h).elim
     ·obtain ⟨ag, r, h1, h2⟩ := hsp i h; exact ⟨_, ag, r, h1, h2⟩
   simp only [Jt, Bool.and_eq_true] at hok
   obtain ⟨⟨⟨⟨_, hb'⟩, _⟩, hagq⟩, hrest⟩ := hok
   obtain ⟨o', ho', Yn⟩ := Yn
   rw [ho] at ho'; cases ho'
   simp only [ho, Bool.and_eq_true] at hb'
   obtain ⟨⟨⟨_, _⟩, hdep⟩, hopn⟩ := hb'
   rw [← Qav hopn hdepS hagr] at Yn
   have key : ∀ v w', (∀ j ∈ qd, (if j = i then true else dn j) = false → QB P ops (QZ gk o.dst v) w' j) → DL P ops K r (QZ gk o.dst v) w' → I (fun j => if j = i then true else dn j) (QZ g o.dst v) w' := by
    intro v w' hag Yn
    have hc1 : CanonZ Zq P n0 ops T K r (QZ gk o.dst v) w' qd (i :: ed) (fun j => if j = i then true else dn j) := by
     refine ⟨hrest, Yn, ?_, ?_, hag⟩
     ·intro j hj
      obtain ⟨hj0, hjq, oj, hoj, hqj, hopj, hdj⟩ := hc.nq j hj
      exact ⟨hj0, hjq, oj, hoj, hqj, hopj, fun k hk => (hdj k hk).imp (fun h => h) (List.mem_cons_of_mem _)⟩
     ·intro j hj
      rcases List.mem_cons.1 hj with e | hj
      ·rw [e]; exact ⟨hi, hq⟩
      ·exact hc.ne j hj
    obtain ⟨p', gk', qd', hc', h1, h2, h3⟩ := Qeq hI r (QZ gk o.dst v) qd hc1
    refine ⟨p', gk', qd', i :: ed, hc', h1, ?_, ?_, ?_, hdc'⟩
    ·intro j hj
     by_cases e : j = i
     ·rw [e]; exact ⟨hi, .inr (by simp)⟩
     ·simp only [if_neg e] at hj
      exact ⟨(hd1 j hj).1, (hd1 j hj).2.imp (h2 j) (List.mem_cons_of_mem _)⟩
    ·intro j hj
     by_cases e : j = i
     ·simp only [if_pos e]
     ·simp only [if_neg e]
      exact hd2 j ((List.mem_cons.1 hj).resolve_left e)
    ·refine Agr.trans (S := fun j => (if j = i then true else dn j) = true ∨ Qaq Zq n0 ops j = false) (S' := fun j => (j ∈ qd ∨ j ∈ i :: ed) ∨ Qaq Zq n0 ops j = false) (g' := QZ gk o.dst v) (QhF hI hi ho hagr fun j hj hne => by simp only [if_neg hne] at hj; exact hj) h3 ?_
     ·intro j hj
      by_cases e : j = i
      ·rw [e]; exact .inl (.inr (by simp))
      ·simp only [if_neg e] at hj
       exact hj.imp (fun h => (hd1 j h).2.imp (fun h => h) (List.mem_cons_of_mem _)) (fun h => h)
   split
   ·rename_i hw
    rw [if_pos hw] at Yn
    refine (Qai (Qc6 hopn hdepS (fun _ _ _ hk _ _ => .inr hk) hagr).symm Yn).mono ?_
    rintro v w' ⟨hagv, hdlv⟩
    refine key v w' ?_ hdlv
    intro j hj hjd
    have hjd' : dn j = false := by
     split at hjd
     ·cases hjd
     ·exact hjd
    have := List.all_eq_true.1 hagq j hj
    simp only [Bool.or_eq_true, List.any_eq_true] at this
    rcases this with (h | h) | ⟨k, hk, h⟩
    ·exact hagv j (by simpa using h)
    ·have := hanc j (by simpa using h); rw [hjd'] at this; cases this
    ·obtain ⟨hk0, _⟩ := hc.ne k hk
     obtain ⟨ok, hok⟩ := hI.1 k hk0
     have := QgN hT hdc hb k ok hok (hdc k ok (hd2 k hk) hok) j (by simpa using h)
     rw [hjd'] at this; cases this
   ·rename_i hw
    rw [if_neg hw] at Yn
    refine key undef w ?_ Yn
    intro j hj hjd
    have hjd' : dn j = false := by
     split at hjd
     ·cases hjd
     ·exact hjd
    obtain ⟨hj0, hjq, oj, hoj, hqj, hopj, hdj⟩ := hc.nq j hj
    have hne : ∀ k, k ∈ qd ∨ k ∈ ed → k ≠ i := by
     rintro k (h | h) rfl
     ·exact hniq h
     ·exact hnoted h
    refine QfK (S := fun k => ((k ∈ qd ∨ k ∈ ed) ∨ Qaq Zq n0 ops k = false) ∧ k ≠ i) hj0 hoj hopj (fun k hk => ⟨.inl (hdj k hk), hne k (hdj k hk)⟩) ?_ ⟨.inl (.inl hj), hne j (.inl hj)⟩ (Qd4 hjq hoj) (Qc4 hI hi ho (fun hm => hm.2 Z)) (hc.ag j hj hjd')
    intro k ok _ hkq hok hjk
    refine ⟨.inr hkq, ?_⟩
    rintro rfl
    rw [ho] at hok; cases hok
    have := hdepdn j hjk
    rw [hjd'] at this; cases this
 ·rintro dn g w hall ⟨p, gk, qd, ed, hc, hnq, hd1, hd2, hagr, hdc⟩
  have hg : g = gk := by
   funext n
   by_cases hn : ∀ k, k < n0 → KH ops k n = false
   ·exact hagr.1 n hn
   ·obtain ⟨k, hk, hd'⟩ : ∃ k, k < n0 ∧ KH ops k n = true := by
     refine Classical.byContradiction fun hc => hn fun k hk => ?_
     cases hd : KH ops k n with
     | false => rfl
     | true => exact absurd ⟨k, hk, hd⟩ hc
    exact hagr.2 k n hk (.inl (hall k hk)) hd'
  subst hg
  rcases Qf6 p hnq hc.ok hc.dl with e | ⟨_, hne, hsp⟩
  ·subst e; exact hc.dl
  ·obtain ⟨i', hi'⟩ := List.exists_mem_of_ne_nil _ hne
   obtain ⟨ag, r, hok, _⟩ := hsp i' hi'
   simp only [Jt, Bool.and_eq_true] at hok
   obtain ⟨⟨⟨⟨hi', hb'⟩, _⟩, _⟩, _⟩ := hok
   have hi'' : i' < n0 := by simpa [Nat.blt_eq] using hi'
   have hdn := hall i' hi''
   obtain ⟨o', ho'⟩ := hI.1 i' hi''
   simp only [ho', Bool.and_eq_true, Bool.not_eq_true'] at hb'
   rcases (hd1 i' hdn).2 with hm | hm
   ·have := (hc.nq i' hm).2.1
    rw [hb'.1.1.1] at this; cases this
   ·have := hb'.1.1.2
    simp [hm] at this
end
end Go.Pw
/- -/
namespace Go.Pw
def Y1 (P : Program) (t : TypeId) (name : String) : Option (FuncId × Bool) := match P.info? t with
 | some i => (match i.methods.find? (·.name == name) with
  | some m => if m.path.isEmpty then m.func else none
  | none => none)
 | none => none
theorem SubOf.one {sz : Nat} {v u : Value} {l n : Nat} (h : SubOf sz v u l n) : u.oneCell' = true := by
 rcases h with ⟨rfl, _, a, c, rfl⟩ | ⟨g, cap, len, _, _, _, rfl⟩ <;> rfl
section
variable {P : Program} {ρ : Operand → Value} {o : Oper} {w : World} {K : Value → World → Prop}
theorem Qhb {t : TypeId} {i : TypeInfo} {w : World} (h : P.info? t = some i) : (typeInfo t).run P w = .ok i w := by simp [typeInfo, h, go_sem]
theorem QkT (ts : Array TypeId) (t : TypeId) (a : Addr) (s n : String) (w : World) : (Builtin.ssaWrapNilChk_ ts t #[.pointer (some a), strVal s, strVal n]).run P w = .ok (.pointer (some a)) w := rfl
theorem Qhc {t E : TypeId} {name : String} {f : FuncId} {b : Bool} {a : Addr} {r : Value} {n : Nat} (hm : Y1 P t name = some (f, b)) (hT : P.underlying t = some (.pointer E)) (hr : if b then r = .pointer (some a) else (loadVar E a).run P w = .ok r w) :
  (method (n + 1) t (.pointer (some a)) name).run P w = .ok (f, r) w := by
 unfold Y1 at hm
 split at hm
 ·rename_i i hi
  split at hm
  ·rename_i m hf
   split at hm
   ·rename_i he
    have hp : m.path.toList = [] := by simpa using he
    have hp' : m.path = #[] := by simpa using he
    unfold method
    cases b with
    | true =>
     simp only [if_true] at hr
     subst hr
     simp [typeInfo, hi, hf, hp, follow, hm, receiverAt, run_underlying hT, Place.get, go_sem]
    | false =>
     simp only [Bool.false_eq_true, if_false] at hr
     simp only [Sem.run_bind, Qhb hi, Result.andThen_ok, hf, hp, follow, Sem.run_pure, hm, receiverAt, run_underlying hT, Place.get, he, if_true, QkT, asAddr, hr]
   ·cases hm
  ·cases hm
 ·cases hm
theorem QfA {recv : Operand} {name : String} {args : List Operand} {ts : Array TypeId} {vs : List Value} {t E : TypeId} {a : Addr} {f : FuncId} {b : Bool} {fn : Func} {r : Value} (hm : Y1 P t name = some (f, b)) (hT : P.underlying t = some (.pointer E)) (ho : o.op = .call { callee := .invoke recv name, args := args.toArray, argTypes := ts }) (hr : ρ recv = .iface t (.pointer (some a)))
  (hv : if b then r = .pointer (some a) else (loadVar E a).run P w = .ok r w) (hf : P.funcs[f]? = some fn) (hb : fn.body.isNone = false) (hn : (fn.name == "runtime.NumGoroutine") = false) (hargs : List.map ρ args = vs) : (execOp ρ o).run P w = .ok (.enter f (r :: vs).toArray) w := by
 have h0 := Qhc (w := w) (a := a) (r := r) (n := P.types.size + 99) hm hT hv
 have e1 : ((#[Value.iface t (.pointer (some a))] ++ vs.toArray : Array Value))[0]? = some (.iface t (.pointer (some a))) := by simp
 have e2 : (#[r] ++ (#[Value.iface t (.pointer (some a))] ++ vs.toArray).extract 1) = (r :: vs).toArray := by
  apply Array.toList_inj.1
  simp
 unfold execOp
 simp only [ho, resolve, invoke, callMethod, Sem.run_bind, Sem.run_pure, Result.andThen_ok, hr, List.map_toArray, hargs, e1]
 have hp : (program).run P w = .ok P w := rfl
 have h1 : (method (P.types.size + Made.depth) t (.pointer (some a)) name).run P w = .ok (f, r) w := h0
 simp only [hp, Result.andThen_ok, h1, e2]
 unfold callFunc
 simp only [Sem.run_bind, hp, Result.andThen_ok, hf, hn, hb, Bool.false_eq_true, if_false, Sem.run_pure]
theorem QdL {recv : Operand} {name : String} {args : List Operand} {ts : Array TypeId} {vs : List Value} {t E : TypeId} {a : Addr} {f : FuncId} {fn : Func} (hm : Y1 P t name = some (f, true)) (hT : P.underlying t = some (.pointer E)) (ho : o.op = .call { callee := .invoke recv name, args := args.toArray, argTypes := ts }) (hr : ρ recv = .iface t (.pointer (some a)))
  (hf : P.funcs[f]? = some fn) (hb : fn.body.isNone = false) (hn : (fn.name == "runtime.NumGoroutine") = false) (hargs : List.map ρ args = vs)
  (h : Calls P f (.pointer (some a) :: vs).toArray w fun e w' => ∃ v, e = .returned v ∧ K v w') : Exec P ρ o w K := by
 have hrun := QfA (w := w) (r := .pointer (some a)) hm hT ho hr (by simp) hf hb hn hargs
 unfold Exec
 rw [hrun]
 exact h
theorem Ku {recv : Operand} {name : String} {args : List Operand} {ts : Array TypeId} {vs cs : List Value} {w0 : World} {s : PHeap} {H : List Res} {t E : TypeId} {b : Nat} {v : Value} {f : FuncId} {fn : Func} (hm : Y1 P t name = some (f, false)) (hT : P.underlying t = some (.pointer E)) (hE : Yx P E = some (false, 1)) (hS : St w0 s (Res.box b E cs :: H) w) (hv : cs[0]? = some v) (ho : o.op = .call { callee := .invoke recv name, args := args.toArray, argTypes := ts }) (hr : ρ recv = .iface t (.pointer (some ⟨b, 0, none⟩)))
  (hf : P.funcs[f]? = some fn) (hb : fn.body.isNone = false) (hn : (fn.name == "runtime.NumGoroutine") = false) (hargs : List.map ρ args = vs)
  (h : Calls P f (v :: vs).toArray w fun e w' => ∃ u, e = .returned u ∧ K u w') : Exec P ρ o w K := by
 have hc : w.cell? ⟨b, 0, none⟩ = some v := by simp [World.cell?, hS.box_heap, hv]
 have hrun := QfA (w := w) (r := v) hm hT ho hr (by simpa using KR hE hc) hf hb hn hargs
 unfold Exec
 rw [hrun]
 exact h
theorem Qcu {T I : TypeId} {x : Operand} {v : Value} (hT : P.concrete T = true) (ho : o.op = .typeAssert x I T true) (hx : ρ x = .iface T v) (hk : K (.tuple #[v, .bool true]) w) : Exec P ρ o w K := by
 refine .of_run ?_ hk
 unfold execOp
 simp only [ho, hx, Instr.typeAssert]
 unfold Program.concrete at hT
 cases hu : P.underlying T with
 | none => rw [hu] at hT; cases hT
 | some d =>
  rw [hu] at hT
  simp only [Sem.run_bind, run_underlying hu, Result.andThen_ok]
  cases d <;> simp_all [go_sem]
end
end Go.Pw
