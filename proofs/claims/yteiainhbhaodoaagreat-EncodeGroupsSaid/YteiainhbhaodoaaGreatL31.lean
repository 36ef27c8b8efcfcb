/- -/
import Derived.Test.YteiainhbhaodoaaGreatL14
set_option linter.unusedSimpArgs false
set_option linter.unusedVariables false
namespace Go.Pw
/-! ### the pure words -/
abbrev Q0 := List (Int × Bool)
def Ki (m : Q0) (s : Int) : Option Bool := match m with
 | [] => none
 | (k, v) :: r => if k = s then some v else Ki r s
def YQ (m : Q0) (s : Int) (v : Bool) : Q0 := match m with
 | [] => [(s, v)]
 | (k, u) :: r => if k = s then (k, v) :: r else (k, u) :: YQ r s v
def KY (n : Int) : Prop := -9223372036854775808 ≤ n ∧ n ≤ 9223372036854775807
instance (n : Int) : Decidable (KY n) := by unfold KY; infer_instance
def KP (m : Q0) (s : Int) : Option Bool := if KY s then some ((Ki m s).getD false) else none
def JN (m : Q0) (s : Int) (v : Bool) : Option Q0 := if KY s ∧ m.length < maxLen then some (YQ m s v) else none
theorem Qa2 (m : Q0) (s : Int) (v : Bool) : (YQ m s v).length = if (Ki m s).isSome then m.length else m.length + 1 := by
 induction m with
 | nil => simp [YQ, Ki]
 | cons p r ih =>
  obtain ⟨k, u⟩ := p
  unfold YQ Ki
  by_cases h : k = s
  ·rw [if_pos h, if_pos h]; simp
  ·rw [if_neg h, if_neg h, List.length_cons, ih]
   split <;> simp
theorem QaU (m : Q0) (s t : Int) (v : Bool) : Ki (YQ m s v) t = if s = t then some v else Ki m t := by
 induction m with
 | nil => simp [YQ, Ki]
 | cons p r ih =>
  obtain ⟨k, u⟩ := p
  unfold YQ
  by_cases h : k = s
  ·rw [if_pos h]
   unfold Ki
   by_cases h2 : s = t
   ·rw [if_pos h2, if_pos (h.trans h2)]
   ·have h3 : ¬ k = t := fun e => h2 (h.symm.trans e)
    rw [if_neg h2, if_neg h3, if_neg h3]
  ·rw [if_neg h]
   unfold Ki
   rw [ih]
   by_cases h2 : k = t
   ·have h3 : ¬ s = t := fun e => h (h2.trans e.symm)
    rw [if_pos h2, if_neg h3, if_pos h2]
   ·rw [if_neg h2, if_neg h2]
theorem QeV {n : Int} (h : KY n) : (Lit.int .i64 n).wf = true := by
 obtain ⟨h1, h2⟩ := h
 have e1 : IntKind.i64.min = -9223372036854775808 := by decide
 have e2 : IntKind.i64.max = 9223372036854775807 := by decide
 simp only [Lit.wf, decide_eq_true_eq, e1, e2]
 simp [e1, e2]
 omega
/-! ### what is owned -/
def BReads (D : DM) (m : Q0) : Prop := (∀ s : Int, Maps.has D (.int .i64 s) = (Ki m s).isSome) ∧ (∀ (s : Int) (v : Bool) (z : DM), Ki m s = some v → D.atKey (.int .i64 s) z = .lit (.bool v)) ∧ Maps.size D = m.length
theorem Qh0 : BReads (.map []) [] := ⟨fun s => rfl, (by intro s v z h; cases h), rfl⟩
theorem QaL (n : Int) : WideAt.IsKeyLit (.int .i64 n) := by
 simp [WideAt.IsKeyLit]
theorem BReads.put {D : DM} {m : Q0} (h : BReads D m) (ht : Maps.Tidy D) (s : Int) (v : Bool) : BReads (D.put (.int .i64 s) (.lit (.bool v))) (YQ m s v) := by
 obtain ⟨h1, h2, h3⟩ := h
 refine ⟨fun t => ?_, fun t u z ht2 => ?_, ?_⟩
 ·rw [QaU]
  by_cases e : s = t
  ·subst e
   rw [if_pos rfl, Maps.has_put_same ht.isMap (QaL _)]
   rfl
  ·rw [if_neg e, Maps.has_put_other (fun he => e (by injection he with _ he; first | exact he.symm | exact he)), h1]
 ·rw [QaU] at ht2
  by_cases e : s = t
  ·subst e
   rw [if_pos rfl] at ht2
   cases ht2
   rw [Maps.atKey_put_same ht.isMap (QaL _)]
  ·rw [if_neg e] at ht2
   rw [Maps.atKey_put_other (fun he => e (by injection he with _ he; first | exact he.symm | exact he))]
   exact h2 t u z ht2
 ·rw [Maps.size_put ht, h1, Qa2, h3]
def Res.bmap (P : Program) (k e : TypeId) (b : Nat) (m : Q0) : Res where
 p := fun _ w bs => bs = [b] ∧ ∃ D : DM, w.ownsMap P k (plainElem P e) b m.length D ∧ BReads D m
 loc := by
  rintro s w w' bs ⟨rfl, D, ⟨es, clock, hb, r⟩, h2⟩ hw
  exact ⟨Z, D, ⟨es, clock, by rw [hw b (by simp)]; exact hb, r⟩, h2⟩
 mono := fun _ h => h
 lt := by
  rintro s w bs ⟨rfl, D, h1, _⟩ b' hb
  simp at hb; subst hb
  exact h1.lt
section
variable {P : Program} {ρ : Operand → Value} {o : Oper} {w w0 : World} {s : PHeap} {H : List Res} {K : Value → World → Prop} {T : TypeId} {k e : TypeId} {b : Nat} {m : Q0}
theorem St.bmap_get (hS : St w0 s (.bmap P k e b m :: H) w) : ∃ D : DM, w.ownsMap P k (plainElem P e) b m.length D ∧ BReads D m := by
 obtain ⟨bs, hn, hs, b1, b2, e, ⟨rfl, D, h1, h2⟩, h3⟩ := hS.own
 exact ⟨D, h1, h2⟩
def QdI (P : Program) (T k e : TypeId) : Prop := P.underlying T = some (.map k e) ∧ P.underlying k = some (.int .i64) ∧ P.underlying e = some .bool
theorem Kl (hS : St w0 s H w) (ho : o.op = .makeMap T none) (hk : ∀ b w', St w0 s (.bmap P k e b [] :: H) w' → K (.map (some b)) w') : Exec P ρ o w K := by
 have hrun : (Instr.makeMap T none).run P w = .ok (.map (some w.heap.size)) (w.alloc (.map #[] 0)) := rfl
 refine .of_run (v := .map (some w.heap.size)) (w' := w.alloc (.map #[] 0)) ?_ (hk _ _ ?_)
 ·unfold execOp
  simp only [ho, Option.map_none, Sem.run_bind, hrun, Result.andThen_ok, Sem.run_pure]
 ·obtain ⟨bs, hn, hs, hb⟩ := hS.own
  have hlt := hb.lt
  refine ⟨hS.os, hS.tape, hS.output, hS.drawn, Nat.le_trans hS.size (by simp), fun b o hbo => ?_, w.heap.size :: bs, List.nodup_cons.2 ⟨fun hm => Nat.lt_irrefl _ (hlt _ hm), hn⟩, ?_, [w.heap.size], bs, Z, ⟨Z, .map [], World.ownsMap_made w P k _, Qh0⟩, hb.loc fun b hm => YX w _ (hlt b hm)⟩
  ·have := hS.stay b o hbo
   rw [YX w _ (Array.getElem?_eq_some_iff.1 this).1]
   exact this
  ·intro b hm
   rcases List.mem_cons.1 hm with e | hm
   ·subst e; exact hS.new
   ·exact hs b hm
theorem Qic {e : TypeId} (hz : JF P e = some (.bool false)) (w : World) : (zeroValue e).run P w = .ok (.bool false) w := by
 unfold JF at hz
 cases hi : P.info? e with
 | none => rw [hi] at hz; cases hz
 | some i =>
  rw [hi] at hz
  simp at hz
  simp [zeroValue, typeInfo, hi, hz, Result.andThen]
theorem Qjx {H : Type} (he : P.underlying e = some .bool) {v : Value} {z : DataW H × List MemPlace} (h : plainElem P e v = some z) : ∃ a, v = .bool a ∧ z = (.lit (.bool a), []) := by
 unfold plainElem at h
 rw [he] at h
 cases v <;> simp at h
 exact ⟨_, Z, h.symm⟩
theorem Qi5 {D : DM} {m : Q0} (h : BReads D m) (q : Int) : D.atKey (.int .i64 q) (.lit (.bool false)) = .lit (.bool ((Ki m q).getD false)) := by
 cases hm : Ki m q with
 | some u => rw [h.2.1 q u _ hm]; rfl
 | none =>
  have hh := h.1 q
  rw [hm] at hh
  rw [Maps.atKey_of_not_has (D := D) (k := .int .i64 q) (by simpa using hh)]
  rfl
theorem Exec.bmap_get {x y : Operand} {q : Int} {r : Bool} (hS : St w0 s (.bmap P k e b m :: H) w) (hT : QdI P T k e) (hz : JF P e = some (.bool false)) (ho : o.op = .lookup T x y false) (hx : ρ x = .map (some b)) (hy : ρ y = .int .i64 q)
  (hg : KP m q = some r) (hk : K (.bool r) w) : Exec P ρ o w K := by
 obtain ⟨D, h1, h2⟩ := hS.bmap_get
 obtain ⟨t1, t2, t3⟩ := hT
 unfold KP at hg
 split at hg
 ·rename_i hq
  cases hg
  have K' : Maps.Keyed P k := Maps.int_keyed t2
  have hkey := Maps.keyOf_int_mk t2 (QeV hq)
  obtain ⟨v, ps, hrun, hv⟩ := h1.lookup K' t1 (Qic hz w) (plainElem_bool t3 false) hkey
  obtain ⟨a, rfl, ha⟩ := Qjx t3 hv
  have hav : a = (Ki m q).getD false := by
   rw [Qi5 h2] at ha
   simp at ha
   exact ha.1.symm
  refine .of_run (w' := w) (v := .bool a) ?_ (by rw [hav]; exact hk)
  unfold execOp
  simp [ho, hx, hy, hrun, Result.andThen]
 ·cases hg
theorem Kg {x y z : Operand} {q : Int} {v : Bool} {m' : Q0} (hS : St w0 s (.bmap P k e b m :: H) w) (hT : QdI P T k e) (ho : o.op = .mapUpdate T x y z) (hx : ρ x = .map (some b)) (hy : ρ y = .int .i64 q) (hz : ρ z = .bool v)
  (hg : JN m q v = some m') (hk : ∀ w', St w0 s (.bmap P k e b m' :: H) w' → K undef w') : Exec P ρ o w K := by
 obtain ⟨D, h1, h2⟩ := hS.bmap_get
 obtain ⟨t1, t2, t3⟩ := hT
 unfold JN at hg
 split at hg
 ·rename_i hq
  obtain ⟨hq, hm⟩ := hq
  cases hg
  have K' : Maps.Keyed P k := Maps.int_keyed t2
  have hkey := Maps.keyOf_int_mk t2 (QeV hq)
  obtain ⟨w', hrun, h3, hT'⟩ := h1.store K' t1 hm hkey (plainElem_bool (H := Unit) t3 v)
  have h4 := hT'.grown
  have hdr : w.drawn = w'.drawn := by obtain ⟨es, c, es', c', _, rfl⟩ := hT'; rfl
  have h5 := h2.put (h1.tidy K') q v
  refine .of_skip (w' := w') ?_ (hk _ ?_)
  ·unfold execOp
   simp [ho, hx, hy, hz, hrun, Result.andThen]
  ·refine hS.turn h4.os h4.tape h4.output (Nat.le_of_eq hdr) h4.size ?_
   ·intro b1 hb1
    obtain ⟨hb1, _⟩ := hb1
    subst hb1
    refine ⟨[b], ⟨Z, _, ?_, h5⟩, by simp, fun b' hb => .inl hb, fun b' hlt hne => h4.block b' hlt (by simp at hne; simpa using hne)⟩
    have := QcN h3
    rw [h5.2.2] at this
    exact this
 ·cases hg
theorem Qf4 {x : Operand} (hS : St w0 s (.bmap P k e b m :: H) w) (hT : QdI P T k e) (ho : o.op = .call { callee := .builtin .len, args := #[x], argTypes := #[T] }) (hx : ρ x = .map (some b)) (hk : K (.int .i64 (m.length : Int)) w) : Exec P ρ o w K := by
 obtain ⟨D, h1, h2, h3, h4⟩ := hS.bmap_get
 obtain ⟨t1, t2, t3⟩ := hT
 refine .of_run (v := .int .i64 (m.length : Int)) ?_ hk
 unfold execOp
 simp [ho, resolve, invoke, builtin, hx, h1.len t1 o.type, h4, Result.andThen]
end
end Go.Pw
