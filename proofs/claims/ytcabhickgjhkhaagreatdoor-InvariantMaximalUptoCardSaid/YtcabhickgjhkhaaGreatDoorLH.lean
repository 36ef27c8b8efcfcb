/-
  My walk's base, part 23: bytes of a string; functions with what they hold.
-/
import Derived.Test.YtcabhickgjhkhaaGreatDoorLC
import Derived.Test.YtcabhickgjhkhaaGreatDoorL12
import Derived.Test.YtcabhickgjhkhaaGreatDoorL10
import Derived.Test.YtcabhickgjhkhaaGreatDoorL9
import Derived.Test.YtcabhickgjhkhaaGreatDoorLA
set_option linter.unusedSimpArgs false
namespace Go.Pw
section
variable {P : Program} {ρ : Operand → Value} {o : Oper} {w w0 : World} {s : PHeap} {H : List Res} {K : Value → World → Prop} {T : TypeId}
theorem Exec.index_str {x i : Operand} {k : IntKind} {n y : Int} {q : ByteArray} (hT : P.underlying T = some .string) (ho : o.op = .index T x i) (hx : ρ x = .string q) (hi : ρ i = .int k n) (hy : idx (bytesOf q) n = some y) (hk : K (.int .u8 y) w) : Exec P ρ o w K := by
  obtain ⟨h0, hlt, hget⟩ := idx_some hy
  refine Exec.indexv (v := .int .u8 y) ho hx hi ?_ hk
  obtain ⟨b, hb, rfl⟩ : ∃ b, q[n.toNat]? = some b ∧ y = (b.toNat : Int) := by
    unfold bytesOf at hget
    rw [List.getElem?_map, Option.map_eq_some_iff] at hget
    obtain ⟨b, hb, rfl⟩ := hget
    refine ⟨b, ?_, rfl⟩
    have hl := (List.getElem?_eq_some_iff.1 hb).1
    rw [Array.getElem?_toList] at hb
    have hlt' : n.toNat < q.size := by rw [Array.length_toList] at hl; exact hl
    rw [getElem?_pos q n.toNat hlt', ← hb]
    obtain ⟨_, h2⟩ := Array.getElem?_eq_some_iff.1 hb
    rw [hb, ← h2]
    rfl
  simp only [Instr.index, asIntOf, Sem.run_bind, Sem.run_pure, Result.andThen_ok, run_underlying hT]
  rw [if_pos h0, hb]
  rfl
/-- A variable that is written no more is given to what stays. -/
theorem St.freezeVar {α : Type} {E : Enc α} {b : Nat} {Te : TypeId} {cs : List Value} {y : α} (hS : St w0 s (.box b Te cs :: H) w) (h : E.rep s cs y) : ∃ t, PHeap.le s t ∧ St w0 t H w ∧ At t b 0 E y := by
  obtain ⟨bs, t, hp, hle, hbs, hS'⟩ := hS.freezeWith
  obtain ⟨rfl, hb⟩ := hp
  refine ⟨t, hle, hS', cs.toArray, Te, (0, 0), by rw [hbs b (by simp), hb], ?_⟩
  have h2 := E.mono hle h
  have hl := E.len h
  simp only [List.drop_zero]
  rw [List.take_of_length_le (by omega)]
  exact h2
theorem Exec.makeFunc {fn : Fn} {caps : List Operand} {vs : List Value} (ho : o.op = .makeFunc fn #[] caps.toArray) (hc : List.map ρ caps = vs) (hk : K (.func fn #[] vs.toArray) w) : Exec P ρ o w K := by
  refine .of_run (v := .func fn #[] vs.toArray) (w' := w) ?_ hk
  unfold execOp
  simp only [ho, Instr.makeFunc, Sem.run_bind, Sem.run_pure, Result.andThen_ok, List.map_toArray, hc]
  rfl
/-- A call of a function value with what it holds. -/
theorem Exec.callc {c : Operand} {f : FuncId} {fn : Func} {args : List Operand} {ts : Array TypeId} {vs cap all : List Value} (ho : o.op = .call { callee := .value c, args := args.toArray, argTypes := ts }) (hc : ρ c = .func (.func f) #[] cap.toArray)
    (hf : P.funcs[f]? = some fn) (hb : fn.body.isNone = false) (hn : (fn.name == "runtime.NumGoroutine") = false) (hargs : List.map ρ args = vs) (hall : vs ++ cap = all)
    (h : Calls P f all.toArray w fun e w' => ∃ v, e = .returned v ∧ K v w') : Exec P ρ o w K :=
  Exec.callv ho hc hf hb hn hargs (by subst hall; simpa using h)
end
end Go.Pw
/-
  My walk's base, part 26: a slice against nil, unequal.
-/
namespace Go.Pw
section
variable {P : Program} {ρ : Operand → Value} {o : Oper} {w : World} {K : Value → World → Prop} {T T' E : TypeId} {x : Operand} {a : Option Addr} {n c : Nat}
end
end Go.Pw
/-
  My walk's base, part 35: a load off what stays gives the same at any later time.
-/
set_option linter.unusedVariables false
namespace Go.Pw
section
variable {P : Program} {ρ : Operand → Value} {o : Oper} {w w0 : World} {s : PHeap} {H : List Res} {K : Value → World → Prop} {T : TypeId}
end
end Go.Pw
/-
  My walk's base, part 36: parts of slices that stay, with what a second run gives.
-/
namespace Go.Pw
section
variable {P : Program} {ρ : Operand → Value} {o : Oper} {w w0 : World} {K : Value → World → Prop} {T : TypeId} {s : PHeap} {H : List Res}
end
end Go.Pw
/-
  My walk's base, part 38: a part of an element of an owned row is changed.
-/
namespace Go.Pw
/-- What a datum is when the cells of a part of it are written. -/
def Upd {α β : Type} (E : Enc α) (off : Nat) (F : Enc β) (set : α → β → α) : Prop := ∀ s cells a fs b, E.rep s cells a → F.rep s fs b → off + F.sz ≤ E.sz ∧ E.rep s (cells.take off ++ fs ++ cells.drop (off + F.sz)) (set a b)
section
variable {α β γ : Type} {E : Enc α} {F : Enc β} {off : Nat}
theorem Upd.refl (E : Enc α) : Upd E 0 E (fun _ b => b) := fun s cells a fs b h k => by
  have h1 := E.len h
  have h2 := E.len k
  refine ⟨by omega, ?_⟩
  rw [List.take_zero, List.drop_of_length_le (by omega), List.nil_append, List.append_nil]
  exact k
theorem Upd.iso {f : γ → α} {g : α → β → α} {k : γ → β → γ} (h : Upd E off F g) (hf : ∀ c b, f (k c b) = g (f c) b) : Upd (E.iso f) off F k := fun s cells a fs b hr hk => by
  obtain ⟨h1, h2⟩ := h s cells (f a) fs b hr hk
  refine ⟨h1, ?_⟩
  show E.rep s _ (f (k a b))
  rw [hf]
  exact h2
theorem Upd.fst {A : Enc α} {B : Enc γ} {g : α → β → α} (h : Upd A off F g) : Upd (A.pair B) off F (fun p b => (g p.1 b, p.2)) := by
  rintro s cells p fs b ⟨c1, c2, rfl, h1, h2⟩ hk
  obtain ⟨h3, h4⟩ := h s c1 p.1 fs b h1 hk
  have hl := A.len h1
  refine ⟨by show off + F.sz ≤ A.sz + B.sz; omega, _, c2, ?_, h4, h2⟩
  rw [List.take_append_of_le_length (by omega), List.drop_append_of_le_length (by omega)]
  simp
theorem Upd.snd {A : Enc α} {B : Enc γ} {g : γ → β → γ} {n : Nat} (h : Upd B off F g) (hn : A.sz + off = n) : Upd (A.pair B) n F (fun p b => (p.1, g p.2 b)) := by
  rintro s cells p fs b ⟨c1, c2, rfl, h1, h2⟩ hk
  obtain ⟨h3, h4⟩ := h s c2 p.2 fs b h2 hk
  have hl := A.len h1
  subst hn
  refine ⟨by show A.sz + off + F.sz ≤ A.sz + B.sz; omega, c1, _, ?_, h1, h4⟩
  rw [← hl, List.take_length_add_append, Nat.add_assoc, List.drop_length_add_append]
  simp
end
section
variable {P : Program} {ρ : Operand → Value} {o : Oper} {w w0 : World} {K : Value → World → Prop} {s : PHeap} {H : List Res} {T Te : TypeId} {α : Type} {E : Enc α} {v : Value} {xs : List α}
theorem Exec.store_arr_fld {β : Type} {F : Enc β} {set : α → β → α} {y : α} {b : β} {x z : Operand} {u : Value} {g cap off m : Nat} {n : Int} {zs : List α} (hS : St w0 s (.arr E Te v xs :: H) w) (hv : v = .slice (some ⟨g, 0, none⟩) xs.length cap) (hT : tyAgg P T = some (F.agg, F.sz)) (ho : o.op = .store T x z)
    (hx : ρ x = .pointer (some ⟨g, m, none⟩)) (hm : m = 0 + n.toNat * E.sz + off) (hz : ρ z = u) (hu : F.val s u b) (hup : Upd E off F set) (hy : idx xs n = some y) (hset : setI xs n (set y b) = some zs)
    (hk : ∀ w', St w0 s (.arr E Te v zs :: H) w' → K undef w') : Exec P ρ o w K := by
  rw [Nat.zero_add] at hm
  subst hm
  subst hv
  obtain ⟨h0, hlt, rfl⟩ := setI_some hset
  have hr := Enc.val_cells hu
  have hlen : u.cells.toList.length = F.sz := F.len hr
  have key : ∀ {bs : List Nat}, (Res.arr E Te (.slice (some ⟨g, 0, none⟩) xs.length cap) xs).p s w bs → ∃ cur : Array Value, w.heap[g]? = some (.cells cur Te (0, 0)) ∧ n.toNat * E.sz + off + u.cells.toList.length ≤ cur.size ∧ bs = [g] ∧
      (Res.arr E Te (.slice (some ⟨g, 0, none⟩) xs.length cap) (xs.set n.toNat (set y b))).p s (w.setRow g (cur.toList.take (n.toNat * E.sz + off) ++ u.cells.toList ++ cur.toList.drop (n.toNat * E.sz + off + u.cells.toList.length)).toArray) [g] := by
    intro bs h1
    obtain ⟨cur, hg, he, hb⟩ := arrP_cells h1 hy
    obtain ⟨hoff, he2⟩ := hup s _ _ _ _ he hr
    obtain ⟨cur', hg', hfit, hbs, hnew⟩ := arrP_set h1 h0 hlt he2
    rw [hg] at hg'
    cases hg'
    refine ⟨cur, hg, by omega, hbs, ?_⟩
    have hel := E.len he2
    rw [hel] at hnew
    have hc : cur.toList.length = cur.size := by simp
    have hrow : cur.toList.take (n.toNat * E.sz + off) ++ u.cells.toList ++ cur.toList.drop (n.toNat * E.sz + off + u.cells.toList.length) =
        cur.toList.take (n.toNat * E.sz) ++ (((cur.toList.drop (n.toNat * E.sz)).take E.sz).take off ++ u.cells.toList ++ ((cur.toList.drop (n.toNat * E.sz)).take E.sz).drop (off + F.sz)) ++ cur.toList.drop (n.toNat * E.sz + E.sz) := by
      rw [List.take_take, Nat.min_eq_left (by omega), List.take_add, List.drop_take, List.drop_drop, hlen]
      have h3 : cur.toList.drop (n.toNat * E.sz + E.sz) = (cur.toList.drop (n.toNat * E.sz + (off + F.sz))).drop (E.sz - (off + F.sz)) := by
        rw [List.drop_drop]; congr 1; omega
      rw [h3]
      simp only [List.append_assoc, List.take_append_drop]
      rw [Nat.add_assoc]
    rw [hrow]
    exact hnew
  obtain ⟨bs, hn, hss, b1, b2, e, h1, h2⟩ := hS.own
  obtain ⟨cur, hg, hfit, hb1, _⟩ := key h1
  have hrun := run_storeVar (P := P) (w := w) (T := T) (v := u) (cs := u.cells.toList) (by rw [hlen]; exact hT) (by simp) hg hfit (F.one hr)
  refine .of_skip (w' := _) ?_ (hk (w.setRow g (cur.toList.take (n.toNat * E.sz + off) ++ u.cells.toList ++ cur.toList.drop (n.toNat * E.sz + off + u.cells.toList.length)).toArray) ?_)
  · unfold execOp
    simp only [ho, hx, hz, Instr.storeAt, Instr.sureAddr, Sem.run_bind, Sem.run_pure, Result.andThen_ok, hrun]
  · refine hS.turn rfl rfl rfl (Nat.le_refl _) (by rw [setRow_size]; exact Nat.le_refl _) ?_
    intro c1 hc1
    obtain ⟨cur', hg', _, hc1', hnew⟩ := key hc1
    rw [hg] at hg'
    cases hg'
    exact ⟨[g], hnew, by simp, fun x hx => .inl (by rw [hc1']; exact hx), fun x _ hx => setRow_other w g x _ (by rw [hc1'] at hx; simpa using hx)⟩
end
end Go.Pw
/-
  My walk's base, part 39: a drawn region walked in one order, where some quiet operations are steps of their own.
-/
namespace Go.Pw
def isQZ (Z : List Nat) (n0 : Nat) (ops : List Oper) (i : Nat) : Bool := isQ n0 ops i && !Z.contains i
def tmpOKZ (Z : List Nat) (n0 : Nat) (ops : List Oper) (i : Nat) (o : Oper) (u : Nat) : Bool := ((List.range n0).all fun k => !dstIs ops k u || (!isQZ Z n0 ops k && (match ops[k]? with | some ok => (deps ok).contains i | none => false))) || (deps o).any fun k => Nat.blt k n0 && dstIs ops k u
def opndsOKZ (Z : List Nat) (n0 : Nat) (ops : List Oper) (i : Nat) (o : Oper) : Bool :=
  (o.op.operands.toList.all fun x => match x with | .tmp u => tmpOKZ Z n0 ops i o u | _ => true) && (match o.guard with | some (j, _) => (deps o).contains j && Nat.blt j n0 | none => true) && noSel o
def stageOKZ (Z : List Nat) (n0 : Nat) (ops : List Oper) (T : List (List Nat)) (nx : List Nat) (qd ed : List Nat) : Bool :=
  (List.range n0).all fun i => qd.contains i || ed.contains i || nx.contains i || (ancOf T i).any fun j => !isQZ Z n0 ops j && !qd.contains j && !ed.contains j
def planOKZ (Z : List Nat) (n0 : Nat) (ops : List Oper) (T : List (List Nat)) : DPlan → Option (List Nat) → List Nat → List Nat → Bool
  | .done, nx, qd, ed => nx.isNone && (List.range n0).all fun i => qd.contains i || ed.contains i
  | .q i r, nx, qd, ed => nx.isNone && Nat.blt i n0 && (match ops[i]? with
    | some o => isQZ Z n0 ops i && quietOp o && !qd.contains i && ((deps o).all fun j => qd.contains j || ed.contains j) && opndsOKZ Z n0 ops i o
    | none => false) && planOKZ Z n0 ops T r none (i :: qd) ed
  | .e i ag r, nx, qd, ed => Nat.blt i n0 && (match ops[i]? with
    | some o => !isQZ Z n0 ops i && !ed.contains i && ((deps o).all fun j => qd.contains j || ed.contains j) && opndsOKZ Z n0 ops i o
    | none => false) && stageOKZ Z n0 ops T (nx.getD [i]) qd ed && (qd.all fun j => ag.contains j || (ancOf T i).contains j || ed.any fun k => (ancOf T k).contains j) && planOKZ Z n0 ops T r none qd (i :: ed)
  | .alt p q, nx, qd, ed => planOKZ Z n0 ops T p (some (nx.getD (firsts p ++ firsts q))) qd ed && planOKZ Z n0 ops T q (some (nx.getD (firsts p ++ firsts q))) qd ed
structure CanonZ (Z : List Nat) (P : Program) (n0 : Nat) (ops : List Oper) (T : List (List Nat)) (K : Fr → World → Prop) (p : DPlan) (gk : Fr) (w : World) (qd ed : List Nat) (dn : Nat → Bool) : Prop where
  ok : planOKZ Z n0 ops T p none qd ed = true
  dl : DL P ops K p gk w
  nq : ∀ i ∈ qd, i < n0 ∧ isQZ Z n0 ops i = true ∧ ∃ o, ops[i]? = some o ∧ quietOp o = true ∧ opndsOKZ Z n0 ops i o = true ∧ ∀ j ∈ deps o, j ∈ qd ∨ j ∈ ed
  ne : ∀ i ∈ ed, i < n0 ∧ isQZ Z n0 ops i = false
  ag : ∀ i ∈ qd, dn i = false → AgainAt P ops gk w i
section
variable {P : Program} {n0 : Nat} {ops : List Oper} {T : List (List Nat)} {K : Fr → World → Prop} {gk : Fr} {w : World} {qd ed : List Nat}
end
section
variable {P : Program} {N : Nat} {Q : Post} {f : Fr} {w : World}
end
end Go.Pw
