/- -/
import Derived.Test.YteiainhbhaodoaaGreatLA
set_option linter.unusedSimpArgs false
namespace Go.Pw
/-! ### closed facts on types, as functions that the kernel reckons -/
def Qan (P : Program) (T : TypeId) : Option (Bool × Nat) :=
 match P.underlying T, P.info? T with
 | some d, some i => some ((match d with | .struct _ | .array _ _ => true | _ => false), i.size)
 | _, _ => none
def JT (P : Program) (T : TypeId) : Option (TypeId × Nat × Nat) :=
 match P.underlying T with
 | some (.slice e) => (P.info? e).map fun i => (e, i.size, i.bytes)
 | _ => none
def JF (P : Program) (T : TypeId) : Option Value := (P.info? T).bind (·.zero)
def QfT (P : Program) (T : TypeId) (k : Nat) : Option Nat :=
 match P.underlying T with
 | some (.struct fs) => match fs[k]? with
  | some f => match P.info? f.type with
   | some i => if i.size = 0 then none else some f.offset
   | none => none
  | none => none
 | _ => none
section
variable {P : Program} {T : TypeId} {w : World}
theorem Qef {b : Bool} {n : Nat} (h : Qan P T = some (b, n)) : ∃ d i, P.underlying T = some d ∧ P.info? T = some i ∧ i.size = n ∧ (match d with | .struct _ | .array _ _ => true | _ => false) = b := by
 unfold Qan at h
 split at h
 ·rename_i d i hd hi
  simp only [Option.some.injEq, Prod.mk.injEq] at h
  exact ⟨d, i, hd, hi, h.2, h.1⟩
 ·cases h
theorem J7 {e n b : Nat} (h : JT P T = some (e, n, b)) : ∃ i, P.underlying T = some (.slice e) ∧ P.info? e = some i ∧ i.size = n ∧ i.bytes = b := by
 unfold JT at h
 split at h
 ·rename_i e' hd
  obtain ⟨i, hi, hx⟩ := Option.map_eq_some_iff.1 h
  simp only [Prod.mk.injEq] at hx
  obtain ⟨rfl, h1, h2⟩ := hx
  exact ⟨i, hd, hi, h1, h2⟩
 ·cases h
theorem QaK {z : Value} (h : JF P T = some z) : ∃ i, P.info? T = some i ∧ i.zero = some z := by
 unfold JF at h
 exact Option.bind_eq_some_iff.1 h
theorem QfB {b : Bool} {n : Nat} (h : Qan P T = some (b, n)) : (isAgg T).run P w = .ok b w := by
 obtain ⟨d, i, hd, _, _, hb⟩ := Qef h
 simp only [isAgg, Sem.run_bind, run_underlying hd, Result.andThen_ok]
 cases d <;> simp at hb <;> subst hb <;> rfl
theorem run_sizeOf' {b : Bool} {n : Nat} (h : Qan P T = some (b, n)) : (sizeOf T).run P w = .ok n w := by
 obtain ⟨d, i, _, hi, hs, _⟩ := Qef h
 simp [sizeOf, typeInfo, hi, hs]
theorem Qfv {a : Addr} {v : Value} (h : w.cell? a = some v) : (load a).run P w = .ok v w := by
 simp [load, Sem.run, h]
theorem KZ {a : Addr} {v : Value} {n : Nat} (hT : Qan P T = some (false, n)) (h : w.cell? a = some v) : (loadVar T a).run P w = .ok v w := by
 simp only [loadVar, Sem.run_bind, QfB hT, Result.andThen_ok, Bool.false_eq_true, if_false, Qfv h]
theorem Ya {a : Addr} {cs : List Value} (hT : Qan P T = some (true, cs.length)) (h : ∀ j v, cs[j]? = some v → w.cell? (a.add j) = some v) : (loadVar T a).run P w = .ok (.agg cs.toArray) w := by
 simp only [loadVar, Sem.run_bind, QfB hT, Result.andThen_ok, if_true, run_sizeOf' hT, run_loadCells_list w a cs h, Sem.run_pure]
theorem Qd2 {b off : Nat} {v : Value} {cs : List Value} {cur : Array Value} {E : TypeId} {ag : Bool} (hT : Qan P T = some (ag, cs.length)) (hv : v.cells = cs.toArray) (h : w.heap[b]? = some (.cells cur E (0, 0)))
  (hfit : off + cs.length ≤ cur.size) (h1 : ∀ v ∈ cs, v.oneCell' = true) :
  (storeVar T ⟨b, off, none⟩ v).run P w = .ok () (w.setRow b (cur.toList.take off ++ cs ++ cur.toList.drop (off + cs.length)).toArray) := by
 have := run_storeCells_at P b off E cs 0 cur w h (by simpa using hfit) h1
 simp only [Nat.add_zero] at this
 simp only [storeVar, Sem.run_bind, run_sizeOf' hT, Result.andThen_ok, hv]
 simp [this]
end
def Sub {α β : Type} (E : Enc α) (off : Nat) (F : Enc β) (f : α → β) : Prop := ∀ s cells a, E.rep s cells a → F.rep s ((cells.drop off).take F.sz) (f a)
section
variable {α β γ : Type} {E : Enc α} {F : Enc β} {off : Nat}
theorem Sub.refl (E : Enc α) : Sub E 0 E id := fun s cells a h => by
 have := E.len h
 rw [List.drop_zero, ← this, List.take_length]; exact h
theorem Sub.iso {f : γ → α} {g : α → β} (h : Sub E off F g) : Sub (E.iso f) off F (fun c => g (f c)) := fun s cells a hr => h s cells (f a) hr
theorem Sub.fst {A : Enc α} {B : Enc γ} {g : α → β} (h : Sub A off F g) : Sub (A.pair B) off F (fun p => g p.1) := by
 rintro s cells p ⟨c1, c2, rfl, h1, h2⟩
 have hr := h s c1 p.1 h1
 have hl := F.len hr
 have : (c1.drop off).length ≥ F.sz := by simp at hl ⊢; omega
 rw [List.drop_append_of_le_length (by simp at this; have := F.pos; omega), List.take_append_of_le_length this]
 exact hr
theorem QD {A : Enc α} {B : Enc γ} {g : γ → β} {n : Nat} (h : Sub B off F g) (hn : A.sz + off = n) : Sub (A.pair B) n F (fun p => g p.2) := by
 rintro s cells p ⟨c1, c2, rfl, h1, h2⟩
 subst hn
 rw [← A.len h1, List.drop_length_add_append]
 exact h s c2 p.2 h2
end
def At {α : Type} (s : PHeap) (b off : Nat) (E : Enc α) (a : α) : Prop := ∃ c T fz, s b = some (.cells c T fz) ∧ E.rep s ((c.toList.drop off).take E.sz) a
theorem At.mono {α : Type} {s t : PHeap} {b off : Nat} {E : Enc α} {a : α} (h : At s b off E a) (l : PHeap.le s t) : At t b off E a :=
 let ⟨c, T, fz, h1, h2⟩ := h; ⟨c, T, fz, l _ _ h1, E.mono l h2⟩
theorem At.sub {α β : Type} {s : PHeap} {b off n m : Nat} {E : Enc α} {F : Enc β} {f : α → β} {a : α} (h : At s b off E a) (hs : Sub E n F f) (hm : off + n = m) : At s b m F (f a) := by
 obtain ⟨c, T, fz, h1, h2⟩ := h
 refine ⟨c, T, fz, h1, ?_⟩
 have h3 := hs s _ a h2
 have hl := F.len h3
 have hE := E.len h2
 subst hm
 rw [List.drop_take, List.drop_drop] at h3
 rw [List.take_take] at h3
 have : min F.sz (E.sz - n) = F.sz := by
  rcases Nat.le_total F.sz (E.sz - n) with h | h
  ·omega
  ·simp only [List.length_take, List.length_drop] at hl
   omega
 rw [this] at h3
 exact h3
theorem SliceRep.shape {α : Type} {E : Enc α} {s : PHeap} {v : Value} {xs : List α} (h : SliceRep E s v xs) : ∃ a c, v = .slice a xs.length c := by
 rcases h with ⟨rfl, rfl⟩ | ⟨a, cap, rfl, rfl⟩ | ⟨b, off, cap, c, T, fz, cells, rfl, _⟩ <;> exact ⟨_, _, rfl⟩
theorem SliceRep.one {α : Type} {E : Enc α} {s : PHeap} {v : Value} {xs : List α} (h : SliceRep E s v xs) : v.oneCell' = true := by
 obtain ⟨a, c, rfl⟩ := h.shape; rfl
theorem SliceRep.nil {α : Type} (E : Enc α) (s : PHeap) : SliceRep E s (.slice none 0 0) [] := .inl ⟨rfl, rfl⟩
theorem SliceRep.le {α : Type} {E : Enc α} {s : PHeap} {v : Value} {xs : List α} (h : SliceRep E s v xs) : xs.length ≤ maxLen := by
 rcases h with ⟨rfl, rfl⟩ | ⟨a, cap, rfl, rfl⟩ | ⟨b, off, cap, c, T, fz, cells, rfl, h1, h2, _⟩
 ·simp
 ·simp
 ·omega
theorem SliceRep.at {α : Type} {E : Enc α} {s : PHeap} {v : Value} {xs : List α} {n : Int} {y : α} (h : SliceRep E s v xs) (hy : Q9 xs n = some y) :
  ∃ b off c, v = .slice (some ⟨b, off, none⟩) xs.length c ∧ At s b (off + n.toNat * E.sz) E y := by
 obtain ⟨_, hlt, hget⟩ := Qr hy
 rcases h with ⟨rfl, rfl⟩ | ⟨a, cap, rfl, rfl⟩ | ⟨b, off, cap, c, T, fz, cells, rfl, h1, h2, h3, h4, h5⟩
 ·simp at hget
 ·simp at hget
 ·obtain ⟨d, hd, hr⟩ := h5.get hget
  refine ⟨b, off, cap, Z, c, T, fz, h3, ?_⟩
  have hlen := h5.len
  have hin : n.toNat * E.sz + E.sz ≤ cells.length := by
   rw [hlen, ← Nat.succ_mul]
   exact Nat.mul_le_mul_right _ (by omega)
  rw [← h4, List.drop_take, List.drop_drop, List.take_take] at hr
  have : min E.sz (cells.length - n.toNat * E.sz) = E.sz := by omega
  rw [this] at hr
  rw [hr]; exact hd
section
variable {P : Program} {ρ : Operand → Value} {o : Oper} {w w0 : World} {s : PHeap} {H : List Res} {K : Value → World → Prop} {T : TypeId}
theorem QbV (hS : St w0 s H w) {b off : Nat} {c : Array Value} {Te : TypeId} {fz : Nat × Nat} (h : s b = some (.cells c Te fz)) : w.cell? ⟨b, off, none⟩ = c[off]? := by
 simp [World.cell?, hS.stay _ _ h]
/-! ### what stays -/
theorem Zr {α : Type} {E : Enc α} {xs : List α} {x : Operand} {v : Value} {e n b : Nat} (hT : JT P T = some (e, n, b)) (ho : o.op = .call { callee := .builtin .len, args := #[x], argTypes := #[T] }) (hx : ρ x = v) (h : SliceRep E s v xs)
  (hk : K (.int .i64 (xs.length : Int)) w) : Exec P ρ o w K := by
 obtain ⟨i, hu, _⟩ := J7 hT
 obtain ⟨a, c, rfl⟩ := h.shape
 exact Qaf hu ho hx hk
theorem Qeh {b off len cap : Nat} {k : IntKind} {n : Int} {e sz by_ : Nat} (hT : JT P T = some (e, sz, by_)) (h0 : 0 ≤ n) (h1 : n < len) :
  (Instr.indexAt T (.slice (some ⟨b, off, none⟩) len cap) (.int k n)).run P w = .ok (.pointer (some ⟨b, off + n.toNat * sz, none⟩)) w := by
 obtain ⟨i, hu, hi, hs, _⟩ := J7 hT
 simp [Instr.indexAt, asIntOf, run_underlying hu, h0, h1, sizeOf, typeInfo, hi, hs, Addr.add_lit]
theorem Qn {x i : Operand} {k : IntKind} {n : Int} {b off len cap e sz by_ : Nat} (hT : JT P T = some (e, sz, by_)) (ho : o.op = .indexAddr T x i) (hx : ρ x = .slice (some ⟨b, off, none⟩) len cap) (hi : ρ i = .int k n)
  (h0 : 0 ≤ n) (h1 : n < len) (hk : K (.pointer (some ⟨b, off + n.toNat * sz, none⟩)) w) : Exec P ρ o w K := by
 refine .of_run ?_ hk
 unfold execOp
 simp only [ho, hx, hi, Sem.run_bind, Qeh hT h0 h1, Result.andThen_ok, Sem.run_pure]
theorem QJ {α : Type} {E : Enc α} {xs : List α} {y : α} {x i : Operand} {v : Value} {k : IntKind} {n : Int} {e by_ : Nat} (hT : JT P T = some (e, E.sz, by_)) (ho : o.op = .indexAddr T x i) (hx : ρ x = v) (hi : ρ i = .int k n)
  (h : SliceRep E s v xs) (hy : Q9 xs n = some y) (hk : ∀ b off, At s b off E y → K (.pointer (some ⟨b, off, none⟩)) w) : Exec P ρ o w K := by
 obtain ⟨h0, h1, _⟩ := Qr hy
 obtain ⟨b, off, c, rfl, hat⟩ := h.at hy
 exact Qn hT ho hx hi h0 h1 (hk _ _ hat)
theorem Zp {x : Operand} {k b off foff m : Nat} (hT : QfT P T k = some foff) (ho : o.op = .fieldAddr T x k) (hx : ρ x = .pointer (some ⟨b, off, none⟩)) (hm : off + foff = m) (hk : K (.pointer (some ⟨b, m, none⟩)) w) : Exec P ρ o w K := by
 subst hm
 refine .of_run ?_ hk
 unfold QfT at hT
 split at hT
 ·rename_i fs hu
  split at hT
  ·rename_i f hf
   split at hT
   ·rename_i i hi
    split at hT
    ·cases hT
    ·rename_i hsz
     have hoff := Zu hT
     subst hoff
     simp [execOp, ho, hx, Instr.fieldAt, run_underlying hu, hf, Instr.sureAddr, fieldPlace, sizeOf, typeInfo, hi, hsz, Addr.add_lit, go_sem]
   ·cases hT
  ·cases hT
 ·cases hT
theorem Zw {α : Type} {E : Enc α} {y : α} {x : Operand} {b off n : Nat} (hS : St w0 s H w) (hT : Qan P T = some (E.agg, E.sz)) (ho : o.op = .load T x) (hx : ρ x = .pointer (some ⟨b, off, none⟩)) (hn : off = n)
  (h : At s b n E y) (hk : ∀ v, E.val s v y → K v w) : Exec P ρ o w K := by
 subst hn
 obtain ⟨c, Te, fz, h1, h2⟩ := h
 have hlen := E.len h2
 have hcell : ∀ j v, ((c.toList.drop off).take E.sz)[j]? = some v → w.cell? ((⟨b, off, none⟩ : Addr).add j) = some v := by
  intro j v hv
  rw [Addr.add_lit, QbV hS h1]
  rw [List.getElem?_take] at hv
  split at hv
  ·rw [List.getElem?_drop] at hv
   simpa using hv
  ·cases hv
 cases hag : E.agg with
 | true =>
  have hrun := Ya (P := P) (w := w) (a := ⟨b, off, none⟩) (cs := (c.toList.drop off).take E.sz) (by rw [hlen, ← hag]; exact hT) hcell
  refine .of_run (v := .agg ((c.toList.drop off).take E.sz).toArray) ?_ (hk _ ?_)
  ·unfold execOp
   simp only [ho, hx, Instr.loadAt, Instr.sureAddr, Sem.run_bind, Sem.run_pure, Result.andThen_ok, hrun]
  ·unfold Enc.val
   rw [if_pos hag]
   exact ⟨_, Z, by simpa using h2⟩
 | false =>
  have h1' := E.single hag
  rw [h1'] at h2 hcell hlen
  obtain ⟨v, hv⟩ : ∃ v, (c.toList.drop off).take 1 = [v] := by
   match hq : (c.toList.drop off).take 1, hlen with
   | [v], _ => exact ⟨v, rfl⟩
  rw [hv] at h2 hcell
  have hc0 := hcell 0 v rfl
  rw [Addr.add_zero'] at hc0
  rw [hag] at hT
  have hrun := KZ (P := P) (w := w) hT hc0
  refine .of_run (v := v) ?_ (hk _ ?_)
  ·unfold execOp
   simp only [ho, hx, Instr.loadAt, Instr.sureAddr, Sem.run_bind, Sem.run_pure, Result.andThen_ok, hrun]
  ·unfold Enc.val
   rw [if_neg (by simp [hag])]
   exact h2
/-! ### boxes -/
theorem St.box_heap {b : Nat} {Tb : TypeId} {cs : List Value} (hS : St w0 s (.box b Tb cs :: H) w) : w.heap[b]? = some (.cells cs.toArray Tb (0, 0)) := by
 obtain ⟨bs, hn, hs, b1, b2, e, h1, h2⟩ := hS.own
 exact h1.2
theorem Exec.box {x : Operand} {v : Value} {cs : List Value} (hS : St w0 s H w) (ho : o.op = .box T x) (hx : ρ x = v) (hc : v.cells = cs.toArray) (hk : ∀ b w', St w0 s (.box b T cs :: H) w' → K (.pointer (some ⟨b, 0, none⟩)) w') : Exec P ρ o w K := by
 refine .of_run (v := .pointer (some ⟨w.heap.size, 0, none⟩)) (w' := w.alloc (.cells cs.toArray T)) ?_ (hk _ _ (hS.alloc T cs))
 unfold execOp
 simp only [ho, hx, Instr.box, newVar, newRow, newObj, hc, Sem.run_bind, Sem.run_pure, Result.andThen_ok, Sem.run]
 rfl
theorem Exec.alloc {z : Value} {cs : List Value} (hS : St w0 s H w) (hT : JF P T = some z) (ho : o.op = .alloc T) (hc : z.cells = cs.toArray) (hk : ∀ b w', St w0 s (.box b T cs :: H) w' → K (.pointer (some ⟨b, 0, none⟩)) w') : Exec P ρ o w K := by
 obtain ⟨i, hi, hz⟩ := QaK hT
 refine .of_run (v := .pointer (some ⟨w.heap.size, 0, none⟩)) (w' := w.alloc (.cells cs.toArray T)) ?_ (hk _ _ (hS.alloc T cs))
 unfold execOp
 simp only [ho, Instr.alloc, zeroValue, typeInfo, program, newVar, newRow, newObj, hc, Sem.run_bind, Sem.run_pure, Result.andThen_ok, Sem.run, hi, hz]
 rfl
theorem Zn {x : Operand} {b off n : Nat} {Tb : TypeId} {cs : List Value} {v : Value} (hS : St w0 s (.box b Tb cs :: H) w) (hT : Qan P T = some (false, n)) (ho : o.op = .load T x) (hx : ρ x = .pointer (some ⟨b, off, none⟩)) (hv : cs[off]? = some v) (hk : K v w) : Exec P ρ o w K := by
 have hc : w.cell? ⟨b, off, none⟩ = some v := by simp [World.cell?, hS.box_heap, hv]
 refine .of_run ?_ hk
 unfold execOp
 simp only [ho, hx, Instr.loadAt, Instr.sureAddr, Sem.run_bind, Sem.run_pure, Result.andThen_ok, KZ hT hc]
theorem Jy {x : Operand} {b off : Nat} {Tb : TypeId} {cs ds : List Value} (hS : St w0 s (.box b Tb cs :: H) w) (hT : Qan P T = some (true, ds.length)) (ho : o.op = .load T x) (hx : ρ x = .pointer (some ⟨b, off, none⟩)) (hv : (cs.drop off).take ds.length = ds) (hk : K (.agg ds.toArray) w) : Exec P ρ o w K := by
 have hc : ∀ j v, ds[j]? = some v → w.cell? ((⟨b, off, none⟩ : Addr).add j) = some v := by
  intro j v hj
  rw [← hv, List.getElem?_take] at hj
  split at hj
  ·rw [List.getElem?_drop] at hj
   rw [Addr.add_lit]
   simp [World.cell?, hS.box_heap, hj]
  ·cases hj
 refine .of_run ?_ hk
 unfold execOp
 simp only [ho, hx, Instr.loadAt, Instr.sureAddr, Sem.run_bind, Sem.run_pure, Result.andThen_ok, Ya hT hc]
theorem Qcn (w : World) (g : Nat) (cs : Array Value) : (w.setRow g cs).heap.size = w.heap.size := by simp [World.setRow]
theorem St.box_set {b : Nat} {Tb : TypeId} {cs ds : List Value} (hS : St w0 s (.box b Tb cs :: H) w) : St w0 s (.box b Tb ds :: H) (w.setRow b ds.toArray) := by
 refine hS.turn Z Z Z (Nat.le_refl _) (by rw [Qcn]; exact Nat.le_refl _) ?_
 rintro b1 ⟨rfl, hb⟩
 refine ⟨[b], ⟨Z, setRow_heap w b _ _ _ _ hb⟩, by simp, fun x hx => .inl hx, fun x _ hx => setRow_other w b x _ (by simpa using hx)⟩
theorem Qe {x y : Operand} {b off : Nat} {Tb : TypeId} {cs ds es : List Value} {v : Value} {ag : Bool} (hS : St w0 s (.box b Tb cs :: H) w) (hT : Qan P T = some (ag, ds.length)) (ho : o.op = .store T x y) (hx : ρ x = .pointer (some ⟨b, off, none⟩)) (hy : ρ y = v)
  (hc : v.cells = ds.toArray) (h1 : ∀ v ∈ ds, v.oneCell' = true) (hfit : off + ds.length ≤ cs.length) (he : cs.take off ++ ds ++ cs.drop (off + ds.length) = es) (hk : ∀ w', St w0 s (.box b Tb es :: H) w' → K undef w') : Exec P ρ o w K := by
 subst he
 have hrun := Qd2 (P := P) (w := w) hT hc hS.box_heap (by simpa using hfit) h1
 refine .of_skip (w' := w.setRow b (cs.take off ++ ds ++ cs.drop (off + ds.length)).toArray) ?_ (hk _ hS.box_set)
 unfold execOp
 simp only [ho, hx, hy, Instr.storeAt, Instr.sureAddr, Sem.run_bind, Sem.run_pure, Result.andThen_ok]
 simp only [List.toList_toArray] at hrun
 simp only [hrun, Result.andThen_ok, Sem.run_pure]
/-! ### slices of the call's own -/
section
variable {α : Type} {E : Enc α} {Te : TypeId} {v : Value} {xs : List α}
theorem Qfw {base n : Nat} {cells : List Value} {sz : Nat} (h : w.ownsRow base Te sz v n cells) : ∃ a c, v = .slice a n c := by
 rcases h.2 with ⟨rfl, rfl⟩ | ⟨g, cap, cur, rfl, _⟩
 ·exact ⟨_, _, Z⟩
 ·exact ⟨_, _, Z⟩
theorem Qh1 {bs : List Nat} (h : (Res.arr E Te v xs).p s w bs) : ∃ a c, v = .slice a xs.length c := by
 obtain ⟨cells, _, h2, _⟩ := h
 exact Qfw h2
theorem St.arr_shape (hS : St w0 s (.arr E Te v xs :: H) w) : ∃ a c, v = .slice a xs.length c := by
 obtain ⟨bs, hn, hs, b1, b2, e, h1, h2⟩ := hS.own
 exact Qh1 h1
theorem St.arr_one (hS : St w0 s (.arr E Te v xs :: H) w) : v.oneCell' = true := by
 obtain ⟨a, c, rfl⟩ := hS.arr_shape; rfl
theorem QjP {bs : List Nat} (h : (Res.arr E Te v xs).p s w bs) : xs.length ≤ maxLen := by
 obtain ⟨cells, h1, h2, _⟩ := h
 rcases h2.2 with ⟨_, h⟩ | ⟨g, cap, cur, rfl, _, _, h3, h4, _⟩
 ·rw [h]; exact Nat.zero_le _
 ·omega
theorem St.arr_le (hS : St w0 s (.arr E Te v xs :: H) w) : xs.length ≤ maxLen := by
 obtain ⟨bs, hn, hs, b1, b2, e, h1, h2⟩ := hS.own
 exact QjP h1
theorem Q2 {x : Operand} {e n b : Nat} (hS : St w0 s (.arr E Te v xs :: H) w) (hT : JT P T = some (e, n, b)) (ho : o.op = .call { callee := .builtin .len, args := #[x], argTypes := #[T] }) (hx : ρ x = v) (hk : K (.int .i64 (xs.length : Int)) w) : Exec P ρ o w K := by
 obtain ⟨i, hu, _⟩ := J7 hT
 obtain ⟨a, c, rfl⟩ := hS.arr_shape
 exact Qaf hu ho hx hk
theorem QjQ {bs : List Nat} {n : Int} {y : α} (h : (Res.arr E Te v xs).p s w bs) (hy : Q9 xs n = some y) : ∃ g cap, v = .slice (some ⟨g, 0, none⟩) xs.length cap := by
 obtain ⟨_, hlt, hget⟩ := Qr hy
 obtain ⟨cells, h1, h2, _⟩ := h
 rcases h2.2 with ⟨_, h⟩ | ⟨g, cap, cur, rfl, _⟩
 ·omega
 ·exact ⟨g, cap, Z⟩
theorem St.arr_at {n : Int} {y : α} (hS : St w0 s (.arr E Te v xs :: H) w) (hy : Q9 xs n = some y) : ∃ g cap, v = .slice (some ⟨g, 0, none⟩) xs.length cap := by
 obtain ⟨bs, hn, hs, b1, b2, e, h1, h2⟩ := hS.own
 exact QjQ h1 hy
theorem Qh2 {bs : List Nat} {g cap : Nat} {n : Int} {y : α} (h : (Res.arr E Te (.slice (some ⟨g, 0, none⟩) xs.length cap) xs).p s w bs) (hy : Q9 xs n = some y) :
  ∃ cur, w.heap[g]? = some (.cells cur Te (0, 0)) ∧ E.rep s ((cur.toList.drop (n.toNat * E.sz)).take E.sz) y ∧ n.toNat * E.sz + E.sz ≤ cur.size := by
 obtain ⟨h0, hlt, hget⟩ := Qr hy
 obtain ⟨cells, h1, h2, _⟩ := h
 rcases h2.2 with ⟨h, _⟩ | ⟨g', cap', cur, hv, _, hg, hnc, _, hcs, htake⟩
 ·cases h
 ·cases hv
  obtain ⟨d, hd, hr⟩ := h1.get hget
  have hmul : n.toNat * E.sz + E.sz ≤ xs.length * E.sz := by rw [← Nat.succ_mul]; exact Nat.mul_le_mul_right _ (by omega)
  refine ⟨cur, hg, ?_, ?_⟩
  ·rw [← htake, List.drop_take, List.take_take] at hr
   have : min E.sz (xs.length * E.sz - n.toNat * E.sz) = E.sz := by omega
   rw [this] at hr
   rw [hr]; exact hd
  ·rw [hcs]
   exact Nat.le_trans hmul (Nat.mul_le_mul_right _ hnc)
theorem Qhp {β : Type} {F : Enc β} {z : β} {x : Operand} {b off : Nat} {cur : Array Value} {Tb : TypeId} {fz : Nat × Nat} (hT : Qan P T = some (F.agg, F.sz)) (ho : o.op = .load T x) (hx : ρ x = .pointer (some ⟨b, off, none⟩))
  (hw : w.heap[b]? = some (.cells cur Tb fz)) (hr : F.rep s ((cur.toList.drop off).take F.sz) z) (hk : ∀ v, F.val s v z → K v w) : Exec P ρ o w K := by
 have hlen := F.len hr
 have hcell : ∀ j v, ((cur.toList.drop off).take F.sz)[j]? = some v → w.cell? ((⟨b, off, none⟩ : Addr).add j) = some v := by
  intro j v hv
  rw [Addr.add_lit]
  rw [List.getElem?_take] at hv
  split at hv
  ·rw [List.getElem?_drop] at hv
   simp [World.cell?, hw]
   simpa using hv
  ·cases hv
 cases hag : F.agg with
 | true =>
  have hrun := Ya (P := P) (w := w) (a := ⟨b, off, none⟩) (cs := (cur.toList.drop off).take F.sz) (by rw [hlen, ← hag]; exact hT) hcell
  refine .of_run (v := .agg ((cur.toList.drop off).take F.sz).toArray) ?_ (hk _ ?_)
  ·unfold execOp
   simp only [ho, hx, Instr.loadAt, Instr.sureAddr, Sem.run_bind, Sem.run_pure, Result.andThen_ok, hrun]
  ·unfold Enc.val
   rw [if_pos hag]
   exact ⟨_, Z, by simpa using hr⟩
 | false =>
  have h1' := F.single hag
  rw [h1'] at hr hcell hlen
  obtain ⟨v, hv⟩ : ∃ v, (cur.toList.drop off).take 1 = [v] := by
   match hq : (cur.toList.drop off).take 1, hlen with
   | [v], _ => exact ⟨v, rfl⟩
  rw [hv] at hr hcell
  have hc0 := hcell 0 v rfl
  rw [Addr.add_zero'] at hc0
  rw [hag] at hT
  have hrun := KZ (P := P) (w := w) hT hc0
  refine .of_run (v := v) ?_ (hk _ ?_)
  ·unfold execOp
   simp only [ho, hx, Instr.loadAt, Instr.sureAddr, Sem.run_bind, Sem.run_pure, Result.andThen_ok, hrun]
  ·unfold Enc.val
   rw [if_neg (by simp [hag])]
   exact hr
theorem Qij {β : Type} {F : Enc β} {f : α → β} {y : α} {off base : Nat} {l : List Value} (hs : Sub E off F f) (h : E.rep s ((l.drop base).take E.sz) y) : F.rep s ((l.drop (base + off)).take F.sz) (f y) := by
 have h3 := hs s _ y h
 have hl := F.len h3
 rw [List.drop_take, List.drop_drop, List.take_take] at h3
 have : min F.sz (E.sz - off) = F.sz := by
  rcases Nat.le_total F.sz (E.sz - off) with h | h
  ·omega
  ·have := F.pos
   simp only [List.length_take, List.length_drop] at hl
   omega
 rw [this] at h3
 exact h3
theorem Qz {β : Type} {F : Enc β} {f : α → β} {y : α} {x : Operand} {g cap off m : Nat} {n : Int} (hS : St w0 s (.arr E Te v xs :: H) w) (hv : v = .slice (some ⟨g, 0, none⟩) xs.length cap) (hT : Qan P T = some (F.agg, F.sz)) (ho : o.op = .load T x)
  (hx : ρ x = .pointer (some ⟨g, m, none⟩)) (hm : m = 0 + n.toNat * E.sz + off) (hy : Q9 xs n = some y) (hs : Sub E off F f) (hk : ∀ v, F.val s v (f y) → K v w) : Exec P ρ o w K := by
 rw [Nat.zero_add] at hm
 subst hm
 subst hv
 obtain ⟨bs, hn, hss, b1, b2, e, h1, h2⟩ := hS.own
 obtain ⟨cur, hg, hr, _⟩ := Qh2 h1 hy
 exact Qhp hT ho hx hg (Qij hs hr) hk
theorem Qfe {bs : List Nat} {g cap : Nat} {n : Int} {y : α} {ds : List Value} (h : (Res.arr E Te (.slice (some ⟨g, 0, none⟩) xs.length cap) xs).p s w bs) (_h0 : 0 ≤ n) (hlt : n.toNat < xs.length) (hd : E.rep s ds y) :
  ∃ cur, w.heap[g]? = some (.cells cur Te (0, 0)) ∧ n.toNat * E.sz + ds.length ≤ cur.size ∧ bs = [g] ∧
   (Res.arr E Te (.slice (some ⟨g, 0, none⟩) xs.length cap) (xs.set n.toNat y)).p s (w.setRow g (cur.toList.take (n.toNat * E.sz) ++ ds ++ cur.toList.drop (n.toNat * E.sz + ds.length)).toArray) [g] := by
 obtain ⟨cells, h1, h2, rfl⟩ := h
 rcases h2.2 with ⟨h, _⟩ | ⟨g', cap', cur, hv, _, hg, hnc, hcm, hcs, htake⟩
 ·cases h
 ·cases hv
  have hmul : n.toNat * E.sz + E.sz ≤ xs.length * E.sz := by rw [← Nat.succ_mul]; exact Nat.mul_le_mul_right _ (by omega)
  have hcur : xs.length * E.sz ≤ cur.size := by rw [hcs]; exact Nat.mul_le_mul_right _ hnc
  have hdl := E.len hd
  have hset := h1.set hlt hd
  refine ⟨cur, hg, by omega, by simp [Value.ownBlock], _, hset, ⟨by rw [hset.len], .inr ⟨g, cap, _, by simp, Nat.zero_le _, setRow_heap w g cur _ Te _ hg, by simpa using hnc, hcm, ?_, ?_⟩⟩, by simp [Value.ownBlock]⟩
  ·simp only [List.size_toArray, List.length_append, List.length_take, List.length_drop, Array.length_toList]
   omega
  ·rw [List.length_set, hdl]
   rw [← htake]
   have hA : (cur.toList.take (n.toNat * E.sz)).length = n.toNat * E.sz := by simp; omega
   rw [List.toList_toArray, List.append_assoc, List.take_append, hA, List.take_append, hdl]
   rw [List.take_of_length_le (by rw [hA]; omega), List.take_of_length_le (by omega : ds.length ≤ _)]
   rw [List.take_take, show min (n.toNat * E.sz) (xs.length * E.sz) = n.toNat * E.sz by omega, List.append_assoc, List.drop_take]
   congr 3
   omega
theorem Js {y : α} {x z : Operand} {u : Value} {g cap m : Nat} {n : Int} {zs : List α} (hS : St w0 s (.arr E Te v xs :: H) w) (hv : v = .slice (some ⟨g, 0, none⟩) xs.length cap) (hT : Qan P T = some (E.agg, E.sz)) (ho : o.op = .store T x z)
  (hx : ρ x = .pointer (some ⟨g, m, none⟩)) (hm : m = 0 + n.toNat * E.sz) (hz : ρ z = u) (hu : E.val s u y) (hset : QaP xs n y = some zs)
  (hk : ∀ w', St w0 s (.arr E Te v zs :: H) w' → K undef w') : Exec P ρ o w K := by
 rw [Nat.zero_add] at hm
 subst hm
 subst hv
 obtain ⟨h0, hlt, rfl⟩ := Qim hset
 have hr := Qf6 hu
 have hkey : ∀ b1, (Res.arr E Te (.slice (some ⟨g, 0, none⟩) xs.length cap) xs).p s w b1 → ∃ cur, _ := fun b1 h1 => Qfe h1 h0 hlt hr
 obtain ⟨bs, hn, hss, b1, b2, e, h1, h2⟩ := hS.own
 obtain ⟨cur, hg, hfit, hb1, _⟩ := Qfe h1 h0 hlt hr
 have hlen : u.cells.toList.length = E.sz := E.len hr
 have hrun := Qd2 (P := P) (w := w) (T := T) (v := u) (cs := u.cells.toList) (by rw [hlen]; exact hT) (by simp) hg hfit (E.one hr)
 refine .of_skip (w' := _) ?_ (hk (w.setRow g (cur.toList.take (n.toNat * E.sz) ++ u.cells.toList ++ cur.toList.drop (n.toNat * E.sz + u.cells.toList.length)).toArray) ?_)
 ·unfold execOp
  simp only [ho, hx, hz, Instr.storeAt, Instr.sureAddr, Sem.run_bind, Sem.run_pure, Result.andThen_ok, hrun]
 ·refine hS.turn Z Z Z (Nat.le_refl _) (by rw [Qcn]; exact Nat.le_refl _) ?_
  intro c1 hc1
  obtain ⟨cur', hg', _, hc1', hnew⟩ := Qfe hc1 h0 hlt hr
  rw [hg] at hg'
  cases hg'
  exact ⟨[g], hnew, by simp, fun x hx => .inl (by rw [hc1']; exact hx), fun x _ hx => setRow_other w g x _ (by rw [hc1'] at hx; simpa using hx)⟩
end
theorem St.nilArr {α : Type} (hS : St w0 s H w) (E : Enc α) (Te : TypeId) : St w0 s (.arr E Te (.slice none 0 0) [] :: H) w := by
 obtain ⟨bs, hn, hs, hb⟩ := hS.own
 exact ⟨hS.os, hS.tape, hS.output, hS.drawn, hS.size, hS.stay, bs, hn, hs, [], bs, Z, ⟨[], Z, World.ownsRow_nil _ _ _ _, Z⟩, hb⟩
theorem St.boxArr {α : Type} {E : Enc α} {b : Nat} {Te : TypeId} {cs : List Value} {xs : List α} (hS : St w0 s (.box b Te cs :: H) w) (h : reps E s cs xs) (hl : xs.length ≤ maxLen) : St w0 s (.arr E Te (.slice (some ⟨b, 0, none⟩) xs.length xs.length) xs :: H) w := by
 obtain ⟨bs, hn, hs, b1, b2, e, ⟨rfl, h1⟩, h2⟩ := hS.own
 refine ⟨hS.os, hS.tape, hS.output, hS.drawn, hS.size, hS.stay, bs, hn, hs, [b], b2, e, ⟨cs, h, ⟨h.len, .inr ⟨b, xs.length, cs.toArray, Z, Nat.zero_le _, h1, Nat.le_refl _, hl, by simpa using h.len, ?_⟩⟩, Z⟩, h2⟩
 rw [List.toList_toArray, List.take_of_length_le (by rw [h.len]; exact Nat.le_refl _)]
theorem St.freezeArr {α : Type} {E : Enc α} {Te : TypeId} {v : Value} {xs : List α} (hS : St w0 s (.arr E Te v xs :: H) w) : ∃ t, PHeap.le s t ∧ St w0 t H w ∧ SliceRep E t v xs := by
 obtain ⟨bs, t, hp, hle, hbs, hS'⟩ := hS.freezeWith
 obtain ⟨cells, h1, h2, rfl⟩ := hp
 refine ⟨t, hle, hS', ?_⟩
 rcases h2.2 with ⟨rfl, h⟩ | ⟨g, cap, cur, rfl, _, hg, hnc, hcm, hcs, htake⟩
 ·exact .inl ⟨Z, List.eq_nil_of_length_eq_zero h⟩
 ·refine .inr (.inr ⟨g, 0, cap, cur, Te, (0, 0), cells, Z, hnc, hcm, by rw [hbs g (by simp [Value.ownBlock]), hg], ?_, h1.mono hle⟩)
  rw [List.drop_zero, h1.len, htake]
/-! ### append -/
theorem YI {α : Type} {E : Enc α} {Te : TypeId} {v : Value} {xs ys : List α} {t ty by_ : Nat} {z : Value} (hS : St w0 s (.arr E Te v xs :: H) w)
  (hT : JT P t = some (Te, E.sz, by_)) (hz : JF P Te = some z) (hzs : z.cells.size = E.sz)
  (ad : Addr) (c : Nat) (news : List Value) (hnews : ∀ j u, news[j]? = some u → w.cell? (ad.add j) = some u) (hr : reps E s news ys) (hb : (xs.length + ys.length) * by_ ≤ 140737488355328) (hby : 0 < by_) :
  ∃ v' w', (Builtin.append_ #[t, t] ty #[v, .slice (some ad) ys.length c]).run P w = .ok v' w' ∧ St w0 s (.arr E Te v' (xs ++ ys) :: H) w' := by
 obtain ⟨i, hu, hi, hsz, hbs⟩ := J7 hT
 obtain ⟨i', hi', hz'⟩ := QaK hz
 rw [hi] at hi'
 cases hi'
 have h63 : xs.length + ys.length ≤ maxLen := by
  have : xs.length + ys.length ≤ (xs.length + ys.length) * by_ := Nat.le_mul_of_pos_right _ hby
  simp only [maxLen]; omega
 obtain ⟨bs, hn, hss, b1, b2, e, ⟨cells, h1, h2, rfl⟩, h3⟩ := hS.own
 have hlen := h1.len
 have close : ∀ (v' : Value) (w' : World), w'.ownsRow 0 Te E.sz v' (xs.length + ys.length) (cells ++ news) → w.grownBy w' v.ownBlock → (v'.ownBlock = v.ownBlock ∨ ∀ g, v'.ownBlock = some g → w.heap.size ≤ g) → w.drawn ≤ w'.drawn → St w0 s (.arr E Te v' (xs ++ ys) :: H) w' := by
  intro v' w' hown hgrow hwhere hdr
  refine hS.turn hgrow.os hgrow.tape hgrow.output hdr hgrow.size ?_
  rintro c1 ⟨_, _, _, rfl⟩
  refine ⟨v'.ownBlock.toList, ⟨cells ++ news, h1.append hr, by rw [List.length_append]; exact hown, Z⟩, ?_, ?_, ?_⟩
  ·cases v'.ownBlock <;> simp
  ·intro x hx
   rcases hwhere with h | h
   ·exact .inl (by rw [← h]; exact hx)
   ·exact .inr (h x (by simpa using hx))
  ·intro x hx hne
   refine hgrow.block x hx ?_
   intro e
   rw [← e] at hne
   simp at hne
 rcases h2.2 with ⟨rfl, hx0⟩ | ⟨g, cap, cur, rfl, hbg, hg, hnc, hcm, hcs, htake⟩
 ·have h2' : w.ownsRow w.heap.size Te E.sz (.slice none 0 0) xs.length cells := ⟨h2.1, .inl ⟨rfl, hx0⟩⟩
  obtain ⟨v', w', hrun, hown, hgrow, _⟩ := run_append_own (P := P) w w.heap.size t ty Te i z E.sz by_ hu hi hz' hsz hbs hzs E.pos _ xs.length cells h2' ad ys.length c news hr.len hnews (hr.one) h63 hb (Nat.le_refl _)
  refine ⟨v', w', hrun, close v' w' ⟨hown.1, hown.2.imp (fun h => h) (fun ⟨g, cap, cur, a1, _, a2⟩ => ⟨g, cap, cur, a1, Nat.zero_le _, a2⟩)⟩ hgrow (.inr fun g hg => (hown.lt g hg).1) ?_⟩
  by_cases hm : ys.length = 0
  ·have h0 : news = [] := List.eq_nil_of_length_eq_zero (by rw [hr.len, hm, Nat.zero_mul])
   have hf := run_firstCells_some (P := P) w i.size 0 ad 0 c [] (by simp) (by simp)
   have hrun0 : (Builtin.append_ #[t, t] ty #[.slice none 0 0, .slice (some ad) 0 c]).run P w = .ok (.slice none 0 0) w := by
    simp [Builtin.append_, run_underlying hu, sizeOf, typeInfo, hi, Builtin.lenOf, hf]
   rw [hm, hrun0] at hrun
   cases hrun
   exact Nat.le_refl _
  ·have hrun0 := run_append_nil (P := P) w t ty Te i z hu hi hz' ad ys.length c news (by rw [hr.len, hsz]) hnews (by omega) (by simp only [maxLen] at h63; omega) (by rw [hbs]; rw [hx0, Nat.zero_add] at hb; omega)
   rw [hrun] at hrun0
   cases hrun0
   exact Nat.le_succ _
 ·by_cases hroom : xs.length + ys.length ≤ cap
  ·obtain ⟨w', hrun, hown, hgrow⟩ := run_append_fits (P := P) w 0 t ty Te i E.sz hu hi hsz g xs.length cap cells h2 ad ys.length c news hr.len hnews hr.one hroom
   refine ⟨_, w', hrun, close _ w' hown hgrow (.inl Z) ?_⟩
   have hrun0 := run_append_room (P := P) w t ty Te i hu hi g xs.length cap cur hg ad ys.length c news (by rw [hr.len, hsz]) hnews hr.one hroom (by rw [hr.len, hsz, hcs, ← Nat.add_mul]; exact Nat.mul_le_mul_right _ hroom)
   rw [hrun] at hrun0
   cases hrun0
   exact Nat.le_refl _
  ·have holds := h2.cells (g := g) rfl
   have hrun := run_append_grow (P := P) w t ty Te i z hu hi hz' ⟨g, 0, none⟩ xs.length cap cells (by rw [hlen, hsz]) holds ad ys.length c news (by rw [hr.len, hsz]) hnews (by omega) (by simp only [maxLen] at h63; omega) (by rw [hbs]; exact growslice_fits (by omega) hb)
   refine ⟨_, _, hrun, ?_⟩
   refine close _ _ ?_ ?_ (.inr fun x hx => ?_) (show w.drawn ≤ w.drawn + 1 from Nat.le_succ w.drawn)
   ·have hge := grownCap_ge w (xs.length + ys.length) cap Te
    have hcm' := grownCap_le_maxLen w (xs.length + ys.length) cap Te h63
    refine ⟨by rw [List.length_append, hlen, hr.len, Nat.add_mul], .inr ⟨w.heap.size, _, _, Z, Nat.zero_le _, heap_alloc_new w.drew _, hge, hcm', ?_, ?_⟩⟩
    ·simp only [Array.size_append, List.size_toArray, size_zeroCells, hzs, hlen, hr.len, ← Nat.add_mul]
     congr 1
     omega
    ·simp only [Array.toList_append, List.append_assoc]
     rw [← List.append_assoc, Nat.add_mul, ← hlen, ← hr.len, ← List.length_append]
     exact List.take_left
   ·exact ⟨Z, Z, Z, by simp, fun k hk _ => YX w.drew _ hk⟩
   ·simp [Value.ownBlock] at hx
    omega
theorem Qh {α : Type} {E : Enc α} {Te : TypeId} {v u z : Value} {xs ys zs : List α} {t by_ b n cap : Nat} {cs : List Value} {x y : Operand} (hS : St w0 s (.arr E Te v xs :: .box b Te cs :: H) w)
  (hT : JT P t = some (Te, E.sz, by_)) (hz : JF P Te = some z) (hzs : z.cells.size = E.sz) (hby : 0 < by_) (ho : o.op = .call { callee := .builtin .append, args := #[x, y], argTypes := #[t, t] }) (hx : ρ x = v) (hy : ρ y = u)
  (hu : u = .slice (some ⟨b, 0, none⟩) n cap) (hr : reps E s cs ys) (hn : n = ys.length) (ha : app by_ xs ys = some zs)
  (hk : ∀ v' w', St w0 s (.arr E Te v' zs :: H) w' → K v' w') : Exec P ρ o w K := by
 obtain ⟨hb, rfl⟩ := Qff ha
 subst hn
 have hbox := (hS.perm (.swap _ _ _)).box_heap
 have hcell : ∀ j u, cs[j]? = some u → w.cell? ((⟨b, 0, none⟩ : Addr).add j) = some u := by
  intro j u hj
  rw [Addr.add_lit]
  simp [World.cell?, hbox, hj]
 obtain ⟨v', w', hrun, hS'⟩ := YI (P := P) (ty := o.type) hS hT hz hzs ⟨b, 0, none⟩ cap cs hcell hr hb hby
 refine .of_run (v := v') (w' := w') ?_ (hk v' w' (hS'.perm (.swap _ _ _)).drop)
 unfold execOp
 simp only [ho, resolve, invoke, builtin, Sem.run_bind, Sem.run_pure, Result.andThen_ok, List.map_toArray, List.map_cons, List.map_nil, hx, hy, hu, hrun]
theorem Qbf {α : Type} {E : Enc α} {Te : TypeId} {v : Value} {xs : List α} {t ty by_ : Nat} (hS : St w0 s (.arr E Te v xs :: H) w) (hT : JT P t = some (Te, E.sz, by_)) :
  (Builtin.append_ #[t, t] ty #[v, .slice none 0 0]).run P w = .ok v w := by
 obtain ⟨i, hu, hi, hsz, hbs⟩ := J7 hT
 obtain ⟨bs, hn, hss, b1, b2, e, ⟨cells, h1, h2, rfl⟩, h3⟩ := hS.own
 exact run_append_owned_none (P := P) w 0 t ty Te i E.sz hu hi v xs.length cells h2
theorem QY {α : Type} {E : Enc α} {Te : TypeId} {v u z : Value} {xs ys zs : List α} {t by_ : Nat} {x y : Operand} (hS : St w0 s (.arr E Te v xs :: H) w)
  (hT : JT P t = some (Te, E.sz, by_)) (hz : JF P Te = some z) (hzs : z.cells.size = E.sz) (hby : 0 < by_) (ho : o.op = .call { callee := .builtin .append, args := #[x, y], argTypes := #[t, t] }) (hx : ρ x = v) (hy : ρ y = u)
  (hu : SliceRep E s u ys) (ha : app by_ xs ys = some zs)
  (hk : ∀ v' w', St w0 s (.arr E Te v' zs :: H) w' → K v' w') : Exec P ρ o w K := by
 obtain ⟨hb, rfl⟩ := Qff ha
 rcases hu with ⟨rfl, rfl⟩ | ⟨a, cap, rfl, rfl⟩ | ⟨b, off, cap, c, T', fz, cells, rfl, h1, h2, h3, h4, h5⟩
 ·have hrun := Qbf (P := P) (ty := o.type) hS hT
  rw [List.append_nil] at hk
  refine .of_run (v := v) (w' := w) ?_ (hk v w hS)
  unfold execOp
  simp only [ho, resolve, invoke, builtin, Sem.run_bind, Sem.run_pure, Result.andThen_ok, List.map_toArray, List.map_cons, List.map_nil, hx, hy, hrun]
 ·obtain ⟨v', w', hrun, hS'⟩ := YI (P := P) (ty := o.type) (ys := []) hS hT hz hzs a cap [] (fun j u hj => by simp at hj) rfl hb hby
  refine .of_run (v := v') (w' := w') ?_ (hk v' w' hS')
  unfold execOp
  rw [List.length_nil] at hrun
  simp only [ho, resolve, invoke, builtin, Sem.run_bind, Sem.run_pure, Result.andThen_ok, List.map_toArray, List.map_cons, List.map_nil, hx, hy, hrun]
 ·have hcell : ∀ j u, cells[j]? = some u → w.cell? ((⟨b, off, none⟩ : Addr).add j) = some u := by
   intro j u hj
   rw [Addr.add_lit, QbV hS h3]
   rw [← h4, List.getElem?_take] at hj
   split at hj
   ·rw [List.getElem?_drop] at hj; simpa using hj
   ·cases hj
  obtain ⟨v', w', hrun, hS'⟩ := YI (P := P) (ty := o.type) hS hT hz hzs ⟨b, off, none⟩ cap cells hcell h5 hb hby
  refine .of_run (v := v') (w' := w') ?_ (hk v' w' hS')
  unfold execOp
  simp only [ho, resolve, invoke, builtin, Sem.run_bind, Sem.run_pure, Result.andThen_ok, List.map_toArray, List.map_cons, List.map_nil, hx, hy, hrun]
theorem Qcd {α : Type} {E : Enc α} {Te : TypeId} {v u z : Value} {xs ys zs : List α} {t by_ : Nat} {x y : Operand} (hS : St w0 s (.arr E Te v xs :: .arr E Te u ys :: H) w)
  (hT : JT P t = some (Te, E.sz, by_)) (hz : JF P Te = some z) (hzs : z.cells.size = E.sz) (hby : 0 < by_) (ho : o.op = .call { callee := .builtin .append, args := #[x, y], argTypes := #[t, t] }) (hx : ρ x = v) (hy : ρ y = u)
  (ha : app by_ xs ys = some zs)
  (hk : ∀ v' w', St w0 s (.arr E Te v' zs :: .arr E Te u ys :: H) w' → K v' w') : Exec P ρ o w K := by
 obtain ⟨hb, rfl⟩ := Qff ha
 have hS2 := hS.perm (.swap _ _ _)
 obtain ⟨bs, hn, hss, b1, b2, e, ⟨cells, h1, h2, rfl⟩, h3⟩ := hS2.own
 rcases h2.2 with ⟨rfl, hx0⟩ | ⟨g, cap, cur, rfl, hbg, hg, hnc, hcm, hcs, htake⟩
 ·have hrun := Qbf (P := P) (ty := o.type) hS hT
  have hys : ys = [] := List.eq_nil_of_length_eq_zero hx0
  subst hys
  rw [List.append_nil] at hk
  refine .of_run (v := v) (w' := w) ?_ (hk v w hS)
  unfold execOp
  simp only [ho, resolve, invoke, builtin, Sem.run_bind, Sem.run_pure, Result.andThen_ok, List.map_toArray, List.map_cons, List.map_nil, hx, hy, hrun]
 ·have hcell := h2.cells (g := g) rfl
  obtain ⟨v', w', hrun, hS'⟩ := YI (P := P) (ty := o.type) hS hT hz hzs ⟨g, 0, none⟩ cap cells hcell h1 hb hby
  refine .of_run (v := v') (w' := w') ?_ (hk v' w' hS')
  unfold execOp
  simp only [ho, resolve, invoke, builtin, Sem.run_bind, Sem.run_pure, Result.andThen_ok, List.map_toArray, List.map_cons, List.map_nil, hx, hy, hrun]
/-! ### make, literals -/
theorem QaZ {α : Type} {E : Enc α} {c : List Value} {x : α} (h : E.rep s c x) : ∀ n, reps E s (List.replicate n c).flatten (List.replicate n x)
 | 0 => rfl
 | n + 1 => ⟨c, _, by simp [List.replicate_succ], h, QaZ h n⟩
theorem Qd4 {c : List Value} (hc : 0 < c.length) (n : Nat) : (madeCells c.toArray (n * c.length)).toList = (List.replicate n c).flatten := by
 apply List.ext_getElem?
 intro i
 have h1 : (List.replicate n c).flatten.length = n * c.length := by simp
 by_cases hi : i < n * c.length
 ·have hd : i / c.length < n := Nat.div_lt_of_lt_mul (by rw [Nat.mul_comm]; exact hi)
  have e2 : ∀ (m i : Nat), i < m * c.length → (List.replicate m c).flatten[i]? = c[i % c.length]? := by
   intro m
   induction m with
   | zero => intro i h; simp at h
   | succ m ih =>
    intro i h
    rw [List.replicate_succ, List.flatten_cons]
    by_cases hlt : i < c.length
    ·rw [List.getElem?_append_left hlt, Nat.mod_eq_of_lt hlt]
    ·rw [List.getElem?_append_right (by omega), ih _ (by rw [Nat.add_mul] at h; omega), Nat.mod_eq_sub_mod (a := i) (by omega)]
  rw [e2 n i hi]
  have hm : i % c.length < c.length := Nat.mod_lt _ hc
  simp [madeCells, hi, hm]
 ·rw [List.getElem?_eq_none (by simp [madeCells]; omega), List.getElem?_eq_none (by omega)]
theorem Yg {α : Type} {E : Enc α} {Te : TypeId} {z : Value} {y : α} {zs : List α} {by_ : Nat} {k k' : IntKind} {l c : Operand} {n : Int} (hS : St w0 s H w) (hT : JT P T = some (Te, E.sz, by_)) (hz : JF P Te = some z) (hzr : E.rep s z.cells.toList y)
  (ho : o.op = .makeSlice T l c) (hl : ρ l = .int k n) (hc : ρ c = .int k' n) (hm : mk by_ y n = some zs) (hk : ∀ v w', St w0 s (.arr E Te v zs :: H) w' → K v w') : Exec P ρ o w K := by
 obtain ⟨h0, hb, h63, rfl⟩ := QjG hm
 obtain ⟨i, hu, hi, hsz, hbs⟩ := J7 hT
 obtain ⟨i', hi', hz'⟩ := QaK hz
 rw [hi] at hi'
 cases hi'
 have hn63 : n.toNat ≤ maxLen := by simp only [maxLen]; omega
 have hrun := run_make (P := P) w T Te i z hu hi hz' k k' n n h0 (Int.le_refl _) (by rw [hbs]; have h : ((by_ * n.toNat : Nat) : Int) ≤ 281474976710656 := (by omega); rw [Int.natCast_mul, Int.toNat_of_nonneg h0] at h; exact h) h63
 have hzl := E.len hzr
 have hcells : (madeCells z.cells (n.toNat * i.size)).toList = (List.replicate n.toNat z.cells.toList).flatten := by
  have := Qd4 (c := z.cells.toList) (by rw [hzl]; exact E.pos) n.toNat
  rw [hzl] at this
  simpa [hsz] using this
 have hA := hS.alloc Te (List.replicate n.toNat z.cells.toList).flatten
 have hB := hA.boxArr (QaZ hzr n.toNat) (by simpa using hn63)
 have hv : (madeCells z.cells (n.toNat * i.size)) = (List.replicate n.toNat z.cells.toList).flatten.toArray := by rw [← hcells]
 rw [hv] at hrun
 simp only [List.length_replicate] at hB
 refine .of_run (v := _) (w' := _) ?_ (hk _ _ hB)
 unfold execOp
 simp only [ho, hl, hc, Sem.run_bind, Sem.run_pure, Result.andThen_ok, hrun]
theorem Qj {v : Value} (h : v.oneCell' = true) : v.cells = [v].toArray := by
 cases v <;> simp_all [Value.cells, Value.oneCell']
theorem Qf {x v : Value} {c : List Value} (h : x = v) (hc : v.cells = c.toArray) : x.cells = c.toArray := by rw [h, hc]
def Qcj (ρ : Operand → Value) (parts : List (Nat × Operand)) (pcs : List (Nat × List Value)) : Prop := List.map (fun (p : Nat × Operand) => (p.1, (ρ p.2).cells)) parts = List.map (fun (q : Nat × List Value) => (q.1, q.2.toArray)) pcs
theorem Qg : Qcj ρ [] [] := rfl
theorem Qd {i : Nat} {x : Operand} {c : List Value} {l : List (Nat × Operand)} {ps : List (Nat × List Value)} (h : (ρ x).cells = c.toArray) (hl : Qcj ρ l ps) : Qcj ρ ((i, x) :: l) ((i, c) :: ps) := by
 unfold Qcj at *
 simp [h, hl]
def Qj5 (pcs : List (Nat × List Value)) : List (Nat × Value) := pcs.map fun q => (q.1, .agg q.2.toArray)
theorem Qdj (place : Nat → Option (Nat × Nat)) : ∀ (ps qs : List (Nat × Value)) (cells : Array Value), ps.map (fun p => (p.1, p.2.cells)) = qs.map (fun p => (p.1, p.2.cells)) → Instr.fill place cells ps = Instr.fill place cells qs
 | [], [], _, _ => rfl
 | (i, v) :: ps, (j, u) :: qs, cells, h => by
  simp only [List.map_cons, List.cons.injEq, Prod.mk.injEq] at h
  obtain ⟨⟨rfl, h2⟩, h3⟩ := h
  unfold Instr.fill
  rw [h2]
  cases place i with
  | none => rfl
  | some y =>
   obtain ⟨off, size⟩ := y
   simp only []
   split
   ·rfl
   ·exact Qdj place ps qs _ h3
 | [], _ :: _, _, h => by simp at h
 | _ :: _, [], _, h => by simp at h
theorem Qfm {parts : List (Nat × Operand)} {pcs : List (Nat × List Value)} (h : Qcj ρ parts pcs) : (List.map (fun (p : Nat × Operand) => (p.1, ρ p.2)) parts).map (fun p => (p.1, p.2.cells)) = (Qj5 pcs).map (fun p => (p.1, p.2.cells)) := by
 unfold Qcj at h
 unfold Qj5
 rw [List.map_map, List.map_map]
 exact h
theorem QgQ {ps qs : List (Nat × Value)} (h : ps.map (fun p => (p.1, p.2.cells)) = qs.map (fun p => (p.1, p.2.cells))) : (Instr.build T ps.toArray).run P w = (Instr.build T qs.toArray).run P w := by
 have := fun place cells => Qdj place ps qs cells h
 unfold Instr.build
 simp only [this]
theorem QdZ {n : Nat} {ps qs : List (Nat × Value)} (h : ps.map (fun p => (p.1, p.2.cells)) = qs.map (fun p => (p.1, p.2.cells))) : (Instr.buildSlice T n ps.toArray).run P w = (Instr.buildSlice T n qs.toArray).run P w := by
 have := fun place cells => Qdj place ps qs cells h
 unfold Instr.buildSlice
 simp only [this]
theorem Qk : ∀ v ∈ ([] : List Value), v.oneCell' = true := by simp
theorem Zj {a : Value} {l : List Value} (h : a.oneCell' = true) (hl : ∀ v ∈ l, v.oneCell' = true) : ∀ v ∈ a :: l, v.oneCell' = true := by
 intro v hv
 rcases List.mem_cons.1 hv with e | e
 ·rw [e]; exact h
 ·exact hl v e
theorem Qx : List.map ρ [] = [] := rfl
theorem Zi {x : Operand} {v : Value} {l : List Operand} {vs : List Value} (h : ρ x = v) (hl : List.map ρ l = vs) : List.map ρ (x :: l) = v :: vs := by simp [h, hl]
theorem Exec.buildSlice {Te n : Nat} {parts : List (Nat × Operand)} {pcs : List (Nat × List Value)} {cs : List Value} (hS : St w0 s H w) (ho : o.op = .buildSlice T n parts.toArray) (hps : Qcj ρ parts pcs)
  (hrun : ∀ w : World, (Instr.buildSlice T n (Qj5 pcs).toArray).run P w = .ok (.slice (some ⟨w.heap.size, 0, none⟩) n n) (w.alloc (.cells cs.toArray Te))) (hk : ∀ b w', St w0 s (.box b Te cs :: H) w' → K (.slice (some ⟨b, 0, none⟩) n n) w') : Exec P ρ o w K := by
 refine .of_run (v := _) (w' := _) ?_ (hk _ _ (hS.alloc Te cs))
 unfold execOp
 simp only [ho, List.map_toArray, Sem.run_bind, Sem.run_pure, Result.andThen_ok, QdZ (Qfm hps), hrun]
theorem Exec.build {parts : List (Nat × Operand)} {pcs : List (Nat × List Value)} {v : Value} (ho : o.op = .build T parts.toArray) (hps : Qcj ρ parts pcs)
  (hrun : ∀ w : World, (Instr.build T (Qj5 pcs).toArray).run P w = .ok v w) (hk : K v w) : Exec P ρ o w K := by
 refine .of_run (v := v) ?_ hk
 unfold execOp
 simp only [ho, List.map_toArray, Sem.run_bind, Sem.run_pure, Result.andThen_ok, QgQ (Qfm hps), hrun]
theorem QgV {x i : Operand} {u iv v : Value} (ho : o.op = .index T x i) (hx : ρ x = u) (hi : ρ i = iv) (hrun : (Instr.index T u iv).run P w = .ok v w) (hk : K v w) : Exec P ρ o w K := by
 refine .of_run (v := v) ?_ hk
 unfold execOp
 simp only [ho, hx, hi, Sem.run_bind, Sem.run_pure, Result.andThen_ok, hrun]
end
end Go.Pw
