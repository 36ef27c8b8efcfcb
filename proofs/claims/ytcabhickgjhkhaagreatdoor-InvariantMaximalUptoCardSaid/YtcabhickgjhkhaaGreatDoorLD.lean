/-
  My walk's base, part 31: a map of ints to truth values that the call owns.
-/
import Derived.Test.YtcabhickgjhkhaaGreatDoorLC
import Derived.Test.YtcabhickgjhkhaaGreatDoorLA
import Derived.Test.YtcabhickgjhkhaaGreatDoorL12
import Derived.Test.YtcabhickgjhkhaaGreatDoorL8
import Derived.Maps.RangeWalk
set_option linter.unusedSimpArgs false
set_option linter.unusedVariables false
namespace Go.Pw
/-! ### the pure words -/
abbrev BMap := List (Int × Bool)
def bget (m : BMap) (s : Int) : Option Bool := match m with
  | [] => none
  | (k, v) :: r => if k = s then some v else bget r s
def bput (m : BMap) (s : Int) (v : Bool) : BMap := match m with
  | [] => [(s, v)]
  | (k, u) :: r => if k = s then (k, v) :: r else (k, u) :: bput r s v
def i64ok (n : Int) : Prop := -9223372036854775808 ≤ n ∧ n ≤ 9223372036854775807
instance (n : Int) : Decidable (i64ok n) := by unfold i64ok; infer_instance
def bmapGet (m : BMap) (s : Int) : Option Bool := if i64ok s then some ((bget m s).getD false) else none
def bmapPut (m : BMap) (s : Int) (v : Bool) : Option BMap := if i64ok s ∧ m.length < maxLen then some (bput m s v) else none
theorem bput_length (m : BMap) (s : Int) (v : Bool) : (bput m s v).length = if (bget m s).isSome then m.length else m.length + 1 := by
  induction m with
  | nil => simp [bput, bget]
  | cons p r ih =>
    obtain ⟨k, u⟩ := p
    unfold bput bget
    by_cases h : k = s
    · rw [if_pos h, if_pos h]; simp
    · rw [if_neg h, if_neg h, List.length_cons, ih]
      split <;> simp
theorem bget_put (m : BMap) (s t : Int) (v : Bool) : bget (bput m s v) t = if s = t then some v else bget m t := by
  induction m with
  | nil => simp [bput, bget]
  | cons p r ih =>
    obtain ⟨k, u⟩ := p
    unfold bput
    by_cases h : k = s
    · rw [if_pos h]
      unfold bget
      by_cases h2 : s = t
      · rw [if_pos h2, if_pos (h.trans h2)]
      · have h3 : ¬ k = t := fun e => h2 (h.symm.trans e)
        rw [if_neg h2, if_neg h3, if_neg h3]
    · rw [if_neg h]
      unfold bget
      rw [ih]
      by_cases h2 : k = t
      · have h3 : ¬ s = t := fun e => h (h2.trans e.symm)
        rw [if_pos h2, if_neg h3, if_pos h2]
      · rw [if_neg h2, if_neg h2]
theorem i64ok_wf {n : Int} (h : i64ok n) : (Lit.int .i64 n).wf = true := by
  obtain ⟨h1, h2⟩ := h
  have e1 : IntKind.i64.min = -9223372036854775808 := by decide
  have e2 : IntKind.i64.max = 9223372036854775807 := by decide
  simp only [Lit.wf, decide_eq_true_eq, e1, e2]
  simp [e1, e2]
  omega
/-! ### what is owned -/
def BReads (D : DM) (m : BMap) : Prop := (∀ s : Int, Maps.has D (.int .i64 s) = (bget m s).isSome) ∧ (∀ (s : Int) (v : Bool) (z : DM), bget m s = some v → D.atKey (.int .i64 s) z = .lit (.bool v)) ∧ Maps.size D = m.length
theorem breads_nil : BReads (.map []) [] := ⟨fun s => rfl, (by intro s v z h; cases h), rfl⟩
theorem isKeyLit_int (n : Int) : WideAt.IsKeyLit (.int .i64 n) := by
  simp [WideAt.IsKeyLit]
theorem BReads.put {D : DM} {m : BMap} (h : BReads D m) (ht : Maps.Tidy D) (s : Int) (v : Bool) : BReads (D.put (.int .i64 s) (.lit (.bool v))) (bput m s v) := by
  obtain ⟨h1, h2, h3⟩ := h
  refine ⟨fun t => ?_, fun t u z ht2 => ?_, ?_⟩
  · rw [bget_put]
    by_cases e : s = t
    · subst e
      rw [if_pos rfl, Maps.has_put_same ht.isMap (isKeyLit_int _)]
      rfl
    · rw [if_neg e, Maps.has_put_other (fun he => e (by injection he with _ he; first | exact he.symm | exact he)), h1]
  · rw [bget_put] at ht2
    by_cases e : s = t
    · subst e
      rw [if_pos rfl] at ht2
      cases ht2
      rw [Maps.atKey_put_same ht.isMap (isKeyLit_int _)]
    · rw [if_neg e] at ht2
      rw [Maps.atKey_put_other (fun he => e (by injection he with _ he; first | exact he.symm | exact he))]
      exact h2 t u z ht2
  · rw [Maps.size_put ht, h1, bput_length, h3]
def Res.bmap (P : Program) (k e : TypeId) (b : Nat) (m : BMap) : Res where
  p := fun _ w bs => bs = [b] ∧ ∃ D : DM, w.ownsMap P k (plainElem P e) b m.length D ∧ BReads D m
  loc := by
    rintro s w w' bs ⟨rfl, D, ⟨es, clock, hb, r⟩, h2⟩ hw
    exact ⟨rfl, D, ⟨es, clock, by rw [hw b (by simp)]; exact hb, r⟩, h2⟩
  mono := fun _ h => h
  lt := by
    rintro s w bs ⟨rfl, D, h1, _⟩ b' hb
    simp at hb; subst hb
    exact h1.lt
section
variable {P : Program} {ρ : Operand → Value} {o : Oper} {w w0 : World} {s : PHeap} {H : List Res} {K : Value → World → Prop} {T : TypeId} {k e : TypeId} {b : Nat} {m : BMap}
theorem St.bmap_get (hS : St w0 s (.bmap P k e b m :: H) w) : ∃ D : DM, w.ownsMap P k (plainElem P e) b m.length D ∧ BReads D m := by
  obtain ⟨bs, hn, hs, b1, b2, e, ⟨rfl, D, h1, h2⟩, h3⟩ := hS.own
  exact ⟨D, h1, h2⟩
/-- A type of maps of ints to truth values. -/
def tyBMap (P : Program) (T k e : TypeId) : Prop := P.underlying T = some (.map k e) ∧ P.underlying k = some (.int .i64) ∧ P.underlying e = some .bool
theorem Exec.make_bmap (hS : St w0 s H w) (ho : o.op = .makeMap T none) (hk : ∀ b w', St w0 s (.bmap P k e b [] :: H) w' → K (.map (some b)) w') : Exec P ρ o w K := by
  have hrun : (Instr.makeMap T none).run P w = .ok (.map (some w.heap.size)) (w.alloc (.map #[] 0)) := rfl
  refine .of_run (v := .map (some w.heap.size)) (w' := w.alloc (.map #[] 0)) ?_ (hk _ _ ?_)
  · unfold execOp
    simp only [ho, Option.map_none, Sem.run_bind, hrun, Result.andThen_ok, Sem.run_pure]
  · obtain ⟨bs, hn, hs, hb⟩ := hS.own
    have hlt := hb.lt
    refine ⟨hS.os, hS.tape, hS.output, hS.drawn, Nat.le_trans hS.size (by simp), fun b o hbo => ?_, w.heap.size :: bs, List.nodup_cons.2 ⟨fun hm => Nat.lt_irrefl _ (hlt _ hm), hn⟩, ?_, [w.heap.size], bs, rfl, ⟨rfl, .map [], World.ownsMap_made w P k _, breads_nil⟩, hb.loc fun b hm => heap_push_lt w _ (hlt b hm)⟩
    · have := hS.stay b o hbo
      rw [heap_push_lt w _ (Array.getElem?_eq_some_iff.1 this).1]
      exact this
    · intro b hm
      rcases List.mem_cons.1 hm with e | hm
      · subst e; exact hS.new
      · exact hs b hm
theorem zero_bool {e : TypeId} (hz : tyZero P e = some (.bool false)) (w : World) : (zeroValue e).run P w = .ok (.bool false) w := by
  unfold tyZero at hz
  cases hi : P.info? e with
  | none => rw [hi] at hz; cases hz
  | some i =>
    rw [hi] at hz
    simp at hz
    simp [zeroValue, typeInfo, hi, hz, Result.andThen]
theorem bool_inv {H : Type} (he : P.underlying e = some .bool) {v : Value} {z : DataW H × List MemPlace} (h : plainElem P e v = some z) : ∃ a, v = .bool a ∧ z = (.lit (.bool a), []) := by
  unfold plainElem at h
  rw [he] at h
  cases v <;> simp at h
  exact ⟨_, rfl, h.symm⟩
theorem breads_at {D : DM} {m : BMap} (h : BReads D m) (q : Int) : D.atKey (.int .i64 q) (.lit (.bool false)) = .lit (.bool ((bget m q).getD false)) := by
  cases hm : bget m q with
  | some u => rw [h.2.1 q u _ hm]; rfl
  | none =>
    have hh := h.1 q
    rw [hm] at hh
    rw [Maps.atKey_of_not_has (D := D) (k := .int .i64 q) (by simpa using hh)]
    rfl
theorem Exec.bmap_get {x y : Operand} {q : Int} {r : Bool} (hS : St w0 s (.bmap P k e b m :: H) w) (hT : tyBMap P T k e) (hz : tyZero P e = some (.bool false)) (ho : o.op = .lookup T x y false) (hx : ρ x = .map (some b)) (hy : ρ y = .int .i64 q)
    (hg : bmapGet m q = some r) (hk : K (.bool r) w) : Exec P ρ o w K := by
  obtain ⟨D, h1, h2⟩ := hS.bmap_get
  obtain ⟨t1, t2, t3⟩ := hT
  unfold bmapGet at hg
  split at hg
  · rename_i hq
    cases hg
    have K' : Maps.Keyed P k := Maps.int_keyed t2
    have hkey := Maps.keyOf_int_mk t2 (i64ok_wf hq)
    obtain ⟨v, ps, hrun, hv⟩ := h1.lookup K' t1 (zero_bool hz w) (plainElem_bool t3 false) hkey
    obtain ⟨a, rfl, ha⟩ := bool_inv t3 hv
    have hav : a = (bget m q).getD false := by
      rw [breads_at h2] at ha
      simp at ha
      exact ha.1.symm
    refine .of_run (w' := w) (v := .bool a) ?_ (by rw [hav]; exact hk)
    unfold execOp
    simp [ho, hx, hy, hrun, Result.andThen]
  · cases hg
theorem Exec.bmap_put {x y z : Operand} {q : Int} {v : Bool} {m' : BMap} (hS : St w0 s (.bmap P k e b m :: H) w) (hT : tyBMap P T k e) (ho : o.op = .mapUpdate T x y z) (hx : ρ x = .map (some b)) (hy : ρ y = .int .i64 q) (hz : ρ z = .bool v)
    (hg : bmapPut m q v = some m') (hk : ∀ w', St w0 s (.bmap P k e b m' :: H) w' → K undef w') : Exec P ρ o w K := by
  obtain ⟨D, h1, h2⟩ := hS.bmap_get
  obtain ⟨t1, t2, t3⟩ := hT
  unfold bmapPut at hg
  split at hg
  · rename_i hq
    obtain ⟨hq, hm⟩ := hq
    cases hg
    have K' : Maps.Keyed P k := Maps.int_keyed t2
    have hkey := Maps.keyOf_int_mk t2 (i64ok_wf hq)
    obtain ⟨w', hrun, h3, hT'⟩ := h1.store K' t1 hm hkey (plainElem_bool (H := Unit) t3 v)
    have h4 := hT'.grown
    have hdr : w.drawn = w'.drawn := by obtain ⟨es, c, es', c', _, rfl⟩ := hT'; rfl
    have h5 := h2.put (h1.tidy K') q v
    refine .of_skip (w' := w') ?_ (hk _ ?_)
    · unfold execOp
      simp [ho, hx, hy, hz, hrun, Result.andThen]
    · refine hS.turn h4.os h4.tape h4.output (Nat.le_of_eq hdr) h4.size ?_
      · intro b1 hb1
        obtain ⟨hb1, _⟩ := hb1
        subst hb1
        refine ⟨[b], ⟨rfl, _, ?_, h5⟩, by simp, fun b' hb => .inl hb, fun b' hlt hne => h4.block b' hlt (by simp at hne; simpa using hne)⟩
        have := ownsMap_tight h3
        rw [h5.2.2] at this
        exact this
  · cases hg
theorem Exec.bmap_len {x : Operand} (hS : St w0 s (.bmap P k e b m :: H) w) (hT : tyBMap P T k e) (ho : o.op = .call { callee := .builtin .len, args := #[x], argTypes := #[T] }) (hx : ρ x = .map (some b)) (hk : K (.int .i64 (m.length : Int)) w) : Exec P ρ o w K := by
  obtain ⟨D, h1, h2, h3, h4⟩ := hS.bmap_get
  obtain ⟨t1, t2, t3⟩ := hT
  refine .of_run (v := .int .i64 (m.length : Int)) ?_ hk
  unfold execOp
  simp [ho, resolve, invoke, builtin, hx, h1.len t1 o.type, h4, Result.andThen]
end
end Go.Pw
/-
  My walk's base, part 34: the order of strings.
-/
namespace Go.Pw
section
variable {P : Program} {ρ : Operand → Value} {o : Oper} {w : World} {K : Value → World → Prop} {T T' : TypeId} {x y : Operand} {a b : ByteArray}
end
end Go.Pw
/-
  My walk's base, part 40: a map of ints to slices that the call owns, with the slices' rows.
-/
namespace Go.Pw
/-! ### the pure words -/
def aget {α : Type} : List (Int × α) → Int → Option α
  | [], _ => none
  | (k, v) :: r, s => if k = s then some v else aget r s
def aput {α : Type} : List (Int × α) → Int → α → List (Int × α)
  | [], s, v => [(s, v)]
  | (k, u) :: r, s, v => if k = s then (k, v) :: r else (k, u) :: aput r s v
def apos : List Int → Int → Option Nat
  | [], _ => none
  | k :: r, s => if k = s then some 0 else (apos r s).map (· + 1)
section
variable {α β : Type}
theorem aput_length (m : List (Int × α)) (s : Int) (v : α) : (aput m s v).length = if (aget m s).isSome then m.length else m.length + 1 := by
  induction m with
  | nil => simp [aput, aget]
  | cons p r ih =>
    obtain ⟨k, u⟩ := p
    unfold aput aget
    by_cases h : k = s
    · rw [if_pos h, if_pos h]; simp
    · rw [if_neg h, if_neg h, List.length_cons, ih]
      split <;> simp
theorem aget_put (m : List (Int × α)) (s t : Int) (v : α) : aget (aput m s v) t = if s = t then some v else aget m t := by
  induction m with
  | nil => simp [aput, aget]
  | cons p r ih =>
    obtain ⟨k, u⟩ := p
    unfold aput
    by_cases h : k = s
    · rw [if_pos h]
      unfold aget
      by_cases h2 : s = t
      · rw [if_pos h2, if_pos (h.trans h2)]
      · have h3 : ¬ k = t := fun e => h2 (h.symm.trans e)
        rw [if_neg h2, if_neg h3, if_neg h3]
    · rw [if_neg h]
      unfold aget
      rw [ih]
      by_cases h2 : k = t
      · have h3 : ¬ s = t := fun e => h (h2.trans e.symm)
        rw [if_pos h2, if_neg h3, if_pos h2]
      · rw [if_neg h2, if_neg h2]
end
abbrev VMap := List (Int × Value)
/-! ### two things that are owned, as one -/
def Res.star (A B : Res) (φ : Prop) : Res where
  p := fun s w bs => φ ∧ ∃ b1 b2, bs = b1 ++ b2 ∧ A.p s w b1 ∧ B.p s w b2
  loc := by
    rintro s w w' bs ⟨h, b1, b2, rfl, h1, h2⟩ hw
    exact ⟨h, b1, b2, rfl, A.loc h1 (fun b hb => hw b (List.mem_append_left _ hb)), B.loc h2 (fun b hb => hw b (List.mem_append_right _ hb))⟩
  mono := by
    rintro s t w bs l ⟨h, b1, b2, rfl, h1, h2⟩
    exact ⟨h, b1, b2, rfl, A.mono l h1, B.mono l h2⟩
  lt := by
    rintro s w bs ⟨h, b1, b2, rfl, h1, h2⟩ b hb
    rcases List.mem_append.1 hb with hb | hb
    · exact A.lt h1 b hb
    · exact B.lt h2 b hb
section
variable {w w0 : World} {s : PHeap} {H : List Res} {A B : Res} {φ : Prop}
theorem St.unstar (hS : St w0 s (.star A B φ :: H) w) : φ ∧ St w0 s (A :: B :: H) w := by
  obtain ⟨bs, hn, hs, b1, b2, e, ⟨hφ, c1, c2, rfl, h1, h2⟩, h3⟩ := hS.own
  exact ⟨hφ, hS.os, hS.tape, hS.output, hS.drawn, hS.size, hS.stay, bs, hn, hs, c1, c2 ++ b2, by rw [e, List.append_assoc], h1, c2, b2, rfl, h2, h3⟩
theorem St.star (hS : St w0 s (A :: B :: H) w) (h : φ) : St w0 s (.star A B φ :: H) w := by
  obtain ⟨bs, hn, hs, b1, b2, e, h1, c1, c2, rfl, h2, h3⟩ := hS.own
  exact ⟨hS.os, hS.tape, hS.output, hS.drawn, hS.size, hS.stay, bs, hn, hs, b1 ++ c1, c2, by rw [e, List.append_assoc], ⟨h, b1, c1, rfl, h1, h2⟩, h3⟩
/-- What is owned, seen otherwise. -/
theorem St.conv (hS : St w0 s (A :: H) w) (h : ∀ bs, A.p s w bs → B.p s w bs) : St w0 s (B :: H) w := by
  obtain ⟨bs, hn, hs, b1, b2, e, h1, h2⟩ := hS.own
  exact ⟨hS.os, hS.tape, hS.output, hS.drawn, hS.size, hS.stay, bs, hn, hs, b1, b2, e, h b1 h1, h2⟩
end
/-! ### the map, its elements as they lie -/
abbrev DV := DataW Value
def rawElem (v : Value) : Option (DV × List MemPlace) := if v.oneCell' = true then some (.held v, []) else none
theorem rawElem_inv {v : Value} {z : DV × List MemPlace} (h : rawElem v = some z) : z = (.held v, []) := by
  unfold rawElem at h
  split at h
  · exact (Zu h).symm
  · cases h
def VReads (D : DV) (m : VMap) : Prop := (∀ s : Int, Maps.has D (.int .i64 s) = (aget m s).isSome) ∧ (∀ (s : Int) (v : Value) (z : DV), aget m s = some v → D.atKey (.int .i64 s) z = .held v) ∧ Maps.size D = m.length
theorem VReads.put {D : DV} {m : VMap} (h : VReads D m) (ht : Maps.Tidy D) (s : Int) (v : Value) : VReads (D.put (.int .i64 s) (.held v)) (aput m s v) := by
  obtain ⟨h1, h2, h3⟩ := h
  refine ⟨fun t => ?_, fun t u z ht2 => ?_, ?_⟩
  · rw [aget_put]
    by_cases e : s = t
    · subst e
      rw [if_pos rfl, Maps.has_put_same ht.isMap (isKeyLit_int _)]
      rfl
    · rw [if_neg e, Maps.has_put_other (fun he => e (by injection he with _ he; first | exact he.symm | exact he)), h1]
  · rw [aget_put] at ht2
    by_cases e : s = t
    · subst e
      rw [if_pos rfl] at ht2
      cases ht2
      rw [Maps.atKey_put_same ht.isMap (isKeyLit_int _)]
    · rw [if_neg e] at ht2
      rw [Maps.atKey_put_other (fun he => e (by injection he with _ he; first | exact he.symm | exact he))]
      exact h2 t u z ht2
  · rw [Maps.size_put ht, h1, aput_length, h3]
theorem ownsMap_tight' {H : Type} {P : Program} {k : TypeId} {R : Value → Option (DataW H × List MemPlace)} {w : World} {b n : Nat} {D : DataW H} (h : w.ownsMap P k R b n D) : w.ownsMap P k R b (Maps.size D) D := by
  obtain ⟨es, clock, hb, F, hs, rfl⟩ := h
  exact ⟨es, clock, hb, F, by simp [Maps.size, length_sorted], rfl⟩
theorem zero_at {P : Program} {e : TypeId} {z : Value} (hz : tyZero P e = some z) (w : World) : (zeroValue e).run P w = .ok z w := by
  unfold tyZero at hz
  cases hi : P.info? e with
  | none => rw [hi] at hz; cases hz
  | some i =>
    rw [hi] at hz
    simp at hz
    simp [zeroValue, typeInfo, hi, hz, Result.andThen]
section
variable {P : Program} {ρ : Operand → Value} {o : Oper} {w w0 : World} {s : PHeap} {H : List Res} {K : Value → World → Prop} {T k e : TypeId} {b : Nat} {m : VMap}
abbrev nilS : Value := .slice none 0 0
end
/-! ### with its rows -/
section
variable {α : Type}
/-- One row taken out. -/
def Res.hole (E : Enc α) (Te : TypeId) (ks : List Int) (hs : List Value) (xss : List (List α)) (q : Int) : Res := match apos ks q with
  | some i => .rows E Te (hs.eraseIdx i) (xss.eraseIdx i)
  | none => .rows E Te hs xss
variable {P : Program} {ρ : Operand → Value} {o : Oper} {w w0 : World} {s : PHeap} {H : List Res} {K : Value → World → Prop} {T k e Te : TypeId} {b : Nat} {m : VMap} {E : Enc α} {M : List (Int × List α)} {q : Int}
/-! ### given to what stays, but for the map itself -/
end
end Go.Pw
/-
  My walk's base, part 41: a loop over a map's keys: the order is the world's; what is computed must be the same in each.
-/
namespace Go.Pw
/-! ### the pure words -/
open Classical in
/-- What comes out in whatever order the keys are taken. -/
noncomputable def rangeK {R : Type} (keys : List Int) (F : List Int → Option R) : Option R := if h : ∃ r, ∀ ord : List Int, ord.Perm keys → F ord = some r then some (Classical.choose h) else none
theorem rangeK_some {R : Type} {keys : List Int} {F : List Int → Option R} {r : R} (h : rangeK keys F = some r) : ∀ ord : List Int, ord.Perm keys → F ord = some r := by
  unfold rangeK at h
  split at h
  · rename_i hh
    cases h
    exact Classical.choose_spec hh
  · cases h
theorem rangeK_eq {R : Type} {keys : List Int} {F : List Int → Option R} {r : R} (h : ∀ ord : List Int, ord.Perm keys → F ord = some r) : rangeK keys F = some r := by
  unfold rangeK
  have hh : ∃ r, ∀ ord : List Int, ord.Perm keys → F ord = some r := ⟨r, h⟩
  rw [dif_pos hh]
  have := Classical.choose_spec hh keys (.refl _)
  rw [h keys (.refl _)] at this
  exact this.symm
theorem perm_rest : ∀ {l keys : List Int}, l.Nodup → (∀ x ∈ l, x ∈ keys) → ∃ rest, (l ++ rest).Perm keys
  | [], keys, _, _ => ⟨keys, by simp⟩
  | x :: l, keys, hn, hs => by
    obtain ⟨h1, h2⟩ := List.nodup_cons.1 hn
    have hp := List.perm_cons_erase (hs x (by simp))
    obtain ⟨rest, hr⟩ := perm_rest (l := l) (keys := keys.erase x) h2 fun y hy => by
      have hne : y ≠ x := fun e => h1 (e ▸ hy)
      exact (List.mem_erase_of_ne hne).2 (hs y (by simp [hy]))
    exact ⟨rest, (List.Perm.cons x hr).trans hp.symm⟩
theorem perm_all {l keys : List Int} (hn : l.Nodup) (hk : keys.Nodup) (hs : ∀ x ∈ l, x ∈ keys) (ha : ∀ x ∈ keys, x ∈ l) : l.Perm keys := by
  obtain ⟨rest, hr⟩ := perm_rest hn hs
  have hnd := hr.nodup_iff.2 hk
  have : rest = [] := by
    cases rest with
    | nil => rfl
    | cons y rest =>
      have hy := ha y (hr.mem_iff.1 (by simp))
      have := (List.nodup_append.1 hnd).2.2 y hy y (by simp)
      exact absurd rfl this
  subst this
  simpa using hr
/-! ### the loop's rule -/
section
variable {P : Program} {N : Nat} {Q : Post} {f : Fr} {w : World}
end
/-! ### a map that is being ranged over -/
section
variable {α : Type}
variable {P : Program} {ρ : Operand → Value} {o : Oper} {w w0 : World} {s : PHeap} {H : List Res} {K : Value → World → Prop} {T k e Te : TypeId} {b r : Nat} {m : VMap} {E : Enc α} {M : List (Int × List α)} {done : List Int}
theorem Exec.entry {it : Operand} {v : Value} (ho : o.op = .entry it) (hit : ρ it = .pointer (some ⟨r, 0, none⟩)) (hen : (Instr.entry (.pointer (some ⟨r, 0, none⟩))).run P w = .ok v w) (hk : K v w) : Exec P ρ o w K := by
  refine .of_run (v := v) (w' := w) ?_ hk
  unfold execOp
  simp [ho, hit, hen, Result.andThen]
end
end Go.Pw
