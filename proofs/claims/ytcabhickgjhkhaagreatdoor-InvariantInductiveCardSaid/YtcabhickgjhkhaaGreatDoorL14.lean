/-
  My walk's base, part 15: a map of strings to ints that the call owns.
-/
import Derived.Test.YtcabhickgjhkhaaGreatDoorL12
import Derived.Maps.OwnSet
import Derived.StringKeys
import Derived.Carry
set_option linter.unusedSimpArgs false
namespace Go.Pw
/-! ### the pure words -/
abbrev SMap := List (ByteArray × Int)
def mget (m : SMap) (s : ByteArray) : Option Int := match m with
  | [] => none
  | (k, v) :: r => if k.data.toList = s.data.toList then some v else mget r s
def mput (m : SMap) (s : ByteArray) (v : Int) : SMap := match m with
  | [] => [(s, v)]
  | (k, u) :: r => if k.data.toList = s.data.toList then (k, v) :: r else (k, u) :: mput r s v
def mapGet (m : SMap) (s : ByteArray) : Option (Int × Bool) := if s.size ≤ maxLen then some ((mget m s).getD 0, (mget m s).isSome) else none
def mapPut (m : SMap) (s : ByteArray) (v : Int) : Option SMap := if s.size ≤ maxLen ∧ m.length < maxLen ∧ -9223372036854775808 ≤ v ∧ v ≤ 9223372036854775807 then some (mput m s v) else none
theorem mput_length (m : SMap) (s : ByteArray) (v : Int) : (mput m s v).length = if (mget m s).isSome then m.length else m.length + 1 := by
  induction m with
  | nil => simp [mput, mget]
  | cons p r ih =>
    obtain ⟨k, u⟩ := p
    unfold mput mget
    by_cases h : k.data.toList = s.data.toList
    · rw [if_pos h, if_pos h]; simp
    · rw [if_neg h, if_neg h, List.length_cons, ih]
      split <;> simp
theorem mget_put (m : SMap) (s t : ByteArray) (v : Int) : mget (mput m s v) t = if s.data.toList = t.data.toList then some v else mget m t := by
  induction m with
  | nil => simp [mput, mget]
  | cons p r ih =>
    obtain ⟨k, u⟩ := p
    unfold mput
    by_cases h : k.data.toList = s.data.toList
    · rw [if_pos h]
      unfold mget
      by_cases h2 : s.data.toList = t.data.toList
      · rw [if_pos h2, if_pos (h.trans h2)]
      · have h3 : ¬ k.data.toList = t.data.toList := fun e => h2 (h.symm.trans e)
        rw [if_neg h2, if_neg h3, if_neg h3]
    · rw [if_neg h]
      unfold mget
      rw [ih]
      by_cases h2 : k.data.toList = t.data.toList
      · have h3 : ¬ s.data.toList = t.data.toList := fun e => h (h2.trans e.symm)
        rw [if_pos h2, if_neg h3, if_pos h2]
      · rw [if_neg h2, if_neg h2]
/-! ### what is owned -/
abbrev skey (s : ByteArray) : Lit := .string s.data.toList
abbrev DM := DataW Unit
def Reads (D : DM) (m : SMap) : Prop := (∀ s : ByteArray, Maps.has D (skey s) = (mget m s).isSome) ∧ (∀ (s : ByteArray) (v : Int) (z : DM), mget m s = some v → D.atKey (skey s) z = .lit (.int .i64 v)) ∧ Maps.size D = m.length
theorem reads_nil : Reads (.map []) [] := ⟨fun s => rfl, (by intro s v z h; cases h), rfl⟩
theorem isKeyLit_str (l : List UInt8) : WideAt.IsKeyLit (.string l) := by
  simp [WideAt.IsKeyLit]
theorem Reads.put {D : DM} {m : SMap} (h : Reads D m) (ht : Maps.Tidy D) (s : ByteArray) (v : Int) : Reads (D.put (skey s) (.lit (.int .i64 v))) (mput m s v) := by
  obtain ⟨h1, h2, h3⟩ := h
  refine ⟨fun t => ?_, fun t u z ht2 => ?_, ?_⟩
  · rw [mget_put]
    by_cases e : s.data.toList = t.data.toList
    · rw [if_pos e]
      have : skey t = skey s := by rw [skey, skey, e]
      rw [this, Maps.has_put_same ht.isMap (isKeyLit_str _)]
      rfl
    · rw [if_neg e, Maps.has_put_other (fun he => e (by injection he with he; exact he.symm)), h1]
  · rw [mget_put] at ht2
    by_cases e : s.data.toList = t.data.toList
    · rw [if_pos e] at ht2
      cases ht2
      have : skey t = skey s := by rw [skey, skey, e]
      rw [this, Maps.atKey_put_same ht.isMap (isKeyLit_str _)]
    · rw [if_neg e] at ht2
      rw [Maps.atKey_put_other (fun he => e (by injection he with he; exact he.symm))]
      exact h2 t u z ht2
  · rw [Maps.size_put ht, h1, mput_length, h3]
def Res.smap (P : Program) (k e : TypeId) (b : Nat) (m : SMap) : Res where
  p := fun _ w bs => bs = [b] ∧ ∃ D : DM, w.ownsMap P k (plainElem P e) b m.length D ∧ Reads D m
  loc := by
    rintro s w w' bs ⟨rfl, D, ⟨es, clock, hb, r⟩, h2⟩ hw
    exact ⟨rfl, D, ⟨es, clock, by rw [hw b (by simp)]; exact hb, r⟩, h2⟩
  mono := fun _ h => h
  lt := by
    rintro s w bs ⟨rfl, D, h1, _⟩ b' hb
    simp at hb; subst hb
    exact h1.lt
theorem ownsMap_tight {P : Program} {k : TypeId} {R : Value → Option (DataW Unit × List MemPlace)} {w : World} {b n : Nat} {D : DM} (h : w.ownsMap P k R b n D) : w.ownsMap P k R b (Maps.size D) D := by
  obtain ⟨es, clock, hb, F, hs, rfl⟩ := h
  exact ⟨es, clock, hb, F, by simp [Maps.size, length_sorted], rfl⟩
section
variable {P : Program} {ρ : Operand → Value} {o : Oper} {w w0 : World} {s : PHeap} {H : List Res} {K : Value → World → Prop} {T : TypeId} {k e : TypeId} {b : Nat} {m : SMap}
theorem St.smap_get (hS : St w0 s (.smap P k e b m :: H) w) : ∃ D : DM, w.ownsMap P k (plainElem P e) b m.length D ∧ Reads D m := by
  obtain ⟨bs, hn, hs, b1, b2, e, ⟨rfl, D, h1, h2⟩, h3⟩ := hS.own
  exact ⟨D, h1, h2⟩
/-- A type of maps of strings to ints. -/
def tyMap (P : Program) (T k e : TypeId) : Prop := P.underlying T = some (.map k e) ∧ P.underlying k = some .string ∧ P.underlying e = some (.int .i64)
theorem Exec.make_map (hS : St w0 s H w) (ho : o.op = .makeMap T none) (hk : ∀ b w', St w0 s (.smap P k e b [] :: H) w' → K (.map (some b)) w') : Exec P ρ o w K := by
  have hrun : (Instr.makeMap T none).run P w = .ok (.map (some w.heap.size)) (w.alloc (.map #[] 0)) := rfl
  refine .of_run (v := .map (some w.heap.size)) (w' := w.alloc (.map #[] 0)) ?_ (hk _ _ ?_)
  · unfold execOp
    simp only [ho, Option.map_none, Sem.run_bind, hrun, Result.andThen_ok, Sem.run_pure]
  · obtain ⟨bs, hn, hs, hb⟩ := hS.own
    have hlt := hb.lt
    refine ⟨hS.os, hS.tape, hS.output, hS.drawn, Nat.le_trans hS.size (by simp), fun b o hbo => ?_, w.heap.size :: bs, List.nodup_cons.2 ⟨fun hm => Nat.lt_irrefl _ (hlt _ hm), hn⟩, ?_, [w.heap.size], bs, rfl, ⟨rfl, .map [], World.ownsMap_made w P k _, reads_nil⟩, hb.loc fun b hm => heap_push_lt w _ (hlt b hm)⟩
    · have := hS.stay b o hbo
      rw [heap_push_lt w _ (Array.getElem?_eq_some_iff.1 this).1]
      exact this
    · intro b hm
      rcases List.mem_cons.1 hm with e | hm
      · subst e; exact hS.new
      · exact hs b hm
theorem zero_int {e : TypeId} (hz : tyZero P e = some (.int .i64 0)) (w : World) : (zeroValue e).run P w = .ok (.int .i64 0) w := by
  unfold tyZero at hz
  cases hi : P.info? e with
  | none => rw [hi] at hz; cases hz
  | some i =>
    rw [hi] at hz
    simp at hz
    simp [zeroValue, typeInfo, hi, hz, Result.andThen]
theorem Exec.map_get {x y : Operand} {q : ByteArray} {r : Int × Bool} (hS : St w0 s (.smap P k e b m :: H) w) (hT : tyMap P T k e) (hz : tyZero P e = some (.int .i64 0)) (ho : o.op = .lookup T x y true) (hx : ρ x = .map (some b)) (hy : ρ y = .string q)
    (hg : mapGet m q = some r) (hk : K (.tuple #[.int .i64 r.1, .bool r.2]) w) : Exec P ρ o w K := by
  obtain ⟨D, h1, h2, h3, h4⟩ := hS.smap_get
  obtain ⟨t1, t2, t3⟩ := hT
  unfold mapGet at hg
  split at hg
  · rename_i hq
    cases hg
    have K' : Maps.Keyed P k := Maps.string_keyed t2
    have hkey := WideMaps.keyOf_string_mk t2 hq
    obtain ⟨v, ps, hrun, hv⟩ := h1.look_ok K' t1 (zero_int hz w) (plainElem_int t3 (by decide)) hkey
    obtain ⟨a, rfl, ha, _⟩ := plainElem_int_inv t3 hv
    have hav : a = (mget m q).getD 0 := by
      cases hm : mget m q with
      | some u =>
        have := h3 q u (.lit (.int .i64 0)) hm
        rw [this] at ha
        simp at ha
        simp [ha]
      | none =>
        have hh := h2 q
        rw [hm] at hh
        have := Maps.atKey_of_not_has (D := D) (k := skey q) (by simpa using hh) (.lit (.int .i64 0))
        rw [this] at ha
        simp at ha
        simp [← ha]
    refine .of_run (w' := w) (v := .tuple #[.int .i64 a, .bool (Maps.has D (skey q))]) ?_ ?_
    · unfold execOp
      simp [ho, hx, hy, hrun, Result.andThen]
    · rw [hav, h2 q]; exact hk
  · cases hg
theorem Exec.map_put {x y z : Operand} {q : ByteArray} {v : Int} {m' : SMap} (hS : St w0 s (.smap P k e b m :: H) w) (hT : tyMap P T k e) (ho : o.op = .mapUpdate T x y z) (hx : ρ x = .map (some b)) (hy : ρ y = .string q) (hz : ρ z = .int .i64 v)
    (hg : mapPut m q v = some m') (hk : ∀ w', St w0 s (.smap P k e b m' :: H) w' → K undef w') : Exec P ρ o w K := by
  obtain ⟨D, h1, h2⟩ := hS.smap_get
  obtain ⟨t1, t2, t3⟩ := hT
  unfold mapPut at hg
  split at hg
  · rename_i hq
    obtain ⟨hq, hm, hv1, hv2⟩ := hq
    cases hg
    have K' : Maps.Keyed P k := Maps.string_keyed t2
    have hkey := WideMaps.keyOf_string_mk t2 hq
    have hwf : (Lit.int .i64 v).wf = true := by
      have e1 : IntKind.i64.min = -9223372036854775808 := by decide
      have e2 : IntKind.i64.max = 9223372036854775807 := by decide
      simp only [Lit.wf, decide_eq_true_eq, e1, e2]
      simp [e1, e2]
      omega
    obtain ⟨w', hrun, h3, hT'⟩ := h1.store K' t1 hm hkey (plainElem_int (H := Unit) t3 hwf)
    have h4 := hT'.grown
    have hdr : w.drawn = w'.drawn := by obtain ⟨es, c, es', c', _, rfl⟩ := hT'; rfl
    have h5 := h2.put (h1.tidy K') q v
    refine .of_skip (w' := w') ?_ (hk _ ?_)
    · unfold execOp
      simp [ho, hx, hy, hz, hrun, Result.andThen]
    · refine hS.turn h4.os h4.tape h4.output (Nat.le_of_eq hdr) h4.size ?_
      · intro b1 hb1
        obtain ⟨hb1, _⟩ := hb1
        subst hb1
        refine ⟨[b], ⟨rfl, _, ?_, h5⟩, by simp, fun b' hb => .inl hb, fun b' hlt hne => h4.block b' hlt (by simp at hne; simpa using hne)⟩
        have := ownsMap_tight h3
        rw [h5.2.2] at this
        exact this
  · cases hg
end
end Go.Pw
