/-
  My walk's base, part 46: a map of strings whose keys are never met again: what its elements are is left open.
-/
import Derived.Test.YtcabhickgjhkhaaGreatDoorL14
import Derived.Test.YtcabhickgjhkhaaGreatDoorL40
set_option linter.unusedSimpArgs false
set_option linter.unusedVariables false
namespace Go.Pw
def khas (m : List ByteArray) (q : ByteArray) : Bool := m.any fun s => s.data.toList == q.data.toList
/-- a key that is not there -/
def kmiss (m : List ByteArray) (q : ByteArray) : Option Unit := if q.size ≤ maxLen ∧ khas m q = false then some () else none
def kput (m : List ByteArray) (q : ByteArray) : Option (List ByteArray) := if (q.size ≤ maxLen ∧ m.length < maxLen) ∧ khas m q = false then some (q :: m) else none
def KReads (D : DV) (m : List ByteArray) : Prop := (∀ s : ByteArray, Maps.has D (skey s) = khas m s) ∧ Maps.size D = m.length
theorem kreads_nil : KReads (.map []) [] := ⟨fun s => rfl, rfl⟩
theorem KReads.put {D : DV} {m : List ByteArray} (h : KReads D m) (ht : Maps.Tidy D) (s : ByteArray) (v : Value) (hf : khas m s = false) : KReads (D.put (skey s) (.held v)) (s :: m) := by
  obtain ⟨h1, h3⟩ := h
  refine ⟨fun t => ?_, ?_⟩
  · unfold khas
    rw [List.any_cons]
    by_cases e : s.data.toList = t.data.toList
    · have : skey t = skey s := by rw [skey, skey, e]
      rw [this, Maps.has_put_same ht.isMap (isKeyLit_str _)]
      simp [e]
    · rw [Maps.has_put_other (fun he => e (by injection he with he; exact he.symm)), h1]
      have e2 : (s.data.toList == t.data.toList) = false := by simpa using e
      rw [e2]
      rfl
  · rw [Maps.size_put ht, h1, hf, h3]
    simp
def Res.kmap (P : Program) (k : TypeId) (b : Nat) (m : List ByteArray) : Res where
  p := fun _ w bs => bs = [b] ∧ ∃ D : DV, w.ownsMap P k rawElem b m.length D ∧ KReads D m
  loc := by
    rintro s w w' bs ⟨rfl, D, ⟨es, clock, hb, r⟩, h2⟩ hw
    exact ⟨rfl, D, ⟨es, clock, by rw [hw b (by simp)]; exact hb, r⟩, h2⟩
  mono := fun _ h => h
  lt := by
    rintro s w bs ⟨rfl, D, h1, _⟩ b' hb
    simp at hb; subst hb
    exact h1.lt
def tyKMap (P : Program) (T k e : TypeId) : Prop := P.underlying T = some (.map k e) ∧ P.underlying k = some .string
section
variable {P : Program} {ρ : Operand → Value} {o : Oper} {w w0 : World} {s : PHeap} {H : List Res} {K : Value → World → Prop} {T k e : TypeId} {b : Nat} {m : List ByteArray}
theorem St.kmap_get (hS : St w0 s (.kmap P k b m :: H) w) : ∃ D : DV, w.ownsMap P k rawElem b m.length D ∧ KReads D m := by
  obtain ⟨bs, hn, hs, b1, b2, e, ⟨rfl, D, h1, h2⟩, h3⟩ := hS.own
  exact ⟨D, h1, h2⟩
theorem Exec.make_kmap (hS : St w0 s H w) (ho : o.op = .makeMap T none) (hk : ∀ b w', St w0 s (.kmap P k b [] :: H) w' → K (.map (some b)) w') : Exec P ρ o w K := by
  have hrun : (Instr.makeMap T none).run P w = .ok (.map (some w.heap.size)) (w.alloc (.map #[] 0)) := rfl
  refine .of_run (v := .map (some w.heap.size)) (w' := w.alloc (.map #[] 0)) ?_ (hk _ _ ?_)
  · unfold execOp
    simp only [ho, Option.map_none, Sem.run_bind, hrun, Result.andThen_ok, Sem.run_pure]
  · obtain ⟨bs, hn, hs, hb⟩ := hS.own
    have hlt := hb.lt
    refine ⟨hS.os, hS.tape, hS.output, hS.drawn, Nat.le_trans hS.size (by simp), fun b o hbo => ?_, w.heap.size :: bs, List.nodup_cons.2 ⟨fun hm => Nat.lt_irrefl _ (hlt _ hm), hn⟩, ?_, [w.heap.size], bs, rfl, ⟨rfl, .map [], World.ownsMap_made w P k _, kreads_nil⟩, hb.loc fun b hm => heap_push_lt w _ (hlt b hm)⟩
    · have := hS.stay b o hbo
      rw [heap_push_lt w _ (Array.getElem?_eq_some_iff.1 this).1]
      exact this
    · intro b hm
      rcases List.mem_cons.1 hm with e | hm
      · subst e; exact hS.new
      · exact hs b hm
theorem Exec.kmap_look {x y : Operand} {q : ByteArray} {u : Unit} (hS : St w0 s (.kmap P k b m :: H) w) (hT : tyKMap P T k e) (hz : tyZero P e = some nilS) (ho : o.op = .lookup T x y false) (hx : ρ x = .map (some b)) (hy : ρ y = .string q)
    (hq : kmiss m q = some u) (hk : K nilS w) : Exec P ρ o w K := by
  obtain ⟨D, h1, h2⟩ := hS.kmap_get
  obtain ⟨t1, t2⟩ := hT
  unfold kmiss at hq
  split at hq
  · rename_i hc
    have K' : Maps.Keyed P k := Maps.string_keyed t2
    have hkey := WideMaps.keyOf_string_mk t2 hc.1
    obtain ⟨v, ps, hrun, hv⟩ := h1.lookup K' t1 (zero_at hz w) (show rawElem nilS = some (.held nilS, []) from rfl) hkey
    have hv2 := rawElem_inv hv
    rw [Maps.atKey_of_not_has (by rw [h2.1]; exact hc.2)] at hv2
    simp only [Prod.mk.injEq, DataW.held.injEq] at hv2
    refine .of_run (w' := w) (v := v) ?_ (by rw [← hv2.1]; exact hk)
    unfold execOp
    simp [ho, hx, hy, hrun, Result.andThen]
  · cases hq
theorem Exec.kmap_put {x y z : Operand} {q : ByteArray} {v : Value} {m' : List ByteArray} (hS : St w0 s (.kmap P k b m :: H) w) (hT : tyKMap P T k e) (ho : o.op = .mapUpdate T x y z) (hx : ρ x = .map (some b)) (hy : ρ y = .string q) (hz : ρ z = v) (h1c : v.oneCell' = true)
    (hq : kput m q = some m') (hk : ∀ w', St w0 s (.kmap P k b m' :: H) w' → K undef w') : Exec P ρ o w K := by
  obtain ⟨D, h1, h2⟩ := hS.kmap_get
  obtain ⟨t1, t2⟩ := hT
  unfold kput at hq
  split at hq
  · rename_i hc
    obtain ⟨⟨hc, hm⟩, hf⟩ := hc
    cases hq
    have K' : Maps.Keyed P k := Maps.string_keyed t2
    have hkey := WideMaps.keyOf_string_mk t2 hc
    obtain ⟨w', hrun, h3, hT'⟩ := h1.store K' t1 hm hkey (show rawElem v = some (.held v, []) by unfold rawElem; rw [if_pos h1c])
    have h4 := hT'.grown
    have hdr : w.drawn = w'.drawn := by obtain ⟨es, c, es', c', _, rfl⟩ := hT'; rfl
    have h5 := h2.put (h1.tidy K') q v hf
    refine .of_skip (w' := w') ?_ (hk _ ?_)
    · unfold execOp
      simp [ho, hx, hy, hz, hrun, Result.andThen]
    · refine hS.turn h4.os h4.tape h4.output (Nat.le_of_eq hdr) h4.size ?_
      intro b1 hb1
      obtain ⟨hb1, _⟩ := hb1
      subst hb1
      refine ⟨[b], ⟨rfl, _, ?_, h5⟩, by simp, fun b' hb => .inl hb, fun b' hlt hne => h4.block b' hlt (by simp at hne; simpa using hne)⟩
      have := ownsMap_tight' h3
      rw [h5.2] at this
      exact this
  · cases hq
end
end Go.Pw
