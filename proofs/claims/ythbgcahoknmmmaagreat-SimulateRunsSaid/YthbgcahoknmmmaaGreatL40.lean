/-
  My walk's base, part 40: a map of ints to slices that the call owns, with the slices' rows.
-/
import Derived.Test.YthbgcahoknmmmaaGreatL31
import Derived.Test.YthbgcahoknmmmaaGreatL12
import Derived.Test.YthbgcahoknmmmaaGreatL8
import Derived.Maps.RangeWalk
set_option linter.unusedSimpArgs false
set_option linter.unusedVariables false
namespace Go.Pw
/-! ### the pure words -/
def aget {α : Type} : List (Int × α) → Int → Option α
  | [], _ => none
  | (k, v) :: r, s => if k = s then some v else aget r s
def aput {α : Type} : List (Int × α) → Int → α → List (Int × α)
  | [], s, v => [(s, v)]
  | (k, u) :: r, s, v => if k = s then (k, v) :: r else (k, u) :: aput r s v
def apos : List Int → Int → Option Nat
  | [], _ => none
  | k :: r, s => if k = s then some 0 else (apos r s).map (· + 1)
section
variable {α β : Type}
theorem aput_length (m : List (Int × α)) (s : Int) (v : α) : (aput m s v).length = if (aget m s).isSome then m.length else m.length + 1 := by
  induction m with
  | nil => simp [aput, aget]
  | cons p r ih =>
    obtain ⟨k, u⟩ := p
    unfold aput aget
    by_cases h : k = s
    · rw [if_pos h, if_pos h]; simp
    · rw [if_neg h, if_neg h, List.length_cons, ih]
      split <;> simp
theorem aget_put (m : List (Int × α)) (s t : Int) (v : α) : aget (aput m s v) t = if s = t then some v else aget m t := by
  induction m with
  | nil => simp [aput, aget]
  | cons p r ih =>
    obtain ⟨k, u⟩ := p
    unfold aput
    by_cases h : k = s
    · rw [if_pos h]
      unfold aget
      by_cases h2 : s = t
      · rw [if_pos h2, if_pos (h.trans h2)]
      · have h3 : ¬ k = t := fun e => h2 (h.symm.trans e)
        rw [if_neg h2, if_neg h3, if_neg h3]
    · rw [if_neg h]
      unfold aget
      rw [ih]
      by_cases h2 : k = t
      · have h3 : ¬ s = t := fun e => h (h2.trans e.symm)
        rw [if_pos h2, if_neg h3, if_pos h2]
      · rw [if_neg h2, if_neg h2]
theorem aput_keys : ∀ {m : List (Int × α)} {M : List (Int × β)}, m.map Prod.fst = M.map Prod.fst → ∀ (s : Int) (v : α) (x : β), (aput m s v).map Prod.fst = (aput M s x).map Prod.fst
  | [], [], _, s, v, x => rfl
  | [], _ :: _, h, _, _, _ => by simp at h
  | _ :: _, [], h, _, _, _ => by simp at h
  | (k, u) :: m, (k', y) :: M, h, s, v, x => by
    simp only [List.map_cons, List.cons.injEq] at h
    obtain ⟨rfl, h⟩ := h
    unfold aput
    by_cases e : k = s
    · simp [e, h]
    · simp [e, aput_keys h s v x]
theorem apos_some : ∀ {m : List (Int × α)} {s : Int} {i : Nat}, apos (m.map Prod.fst) s = some i → ∃ v, (m.map Prod.snd)[i]? = some v ∧ aget m s = some v ∧ ∀ v', (aput m s v').map Prod.snd = (m.map Prod.snd).set i v'
  | [], s, i, h => by simp [apos] at h
  | (k, u) :: m, s, i, h => by
    simp only [List.map_cons, apos] at h
    by_cases e : k = s
    · rw [if_pos e] at h
      cases h
      exact ⟨u, rfl, by simp [aget, e], fun v' => by simp [aput, e]⟩
    · rw [if_neg e] at h
      obtain ⟨j, hj, rfl⟩ := Option.map_eq_some_iff.1 h
      obtain ⟨v, h1, h2, h3⟩ := apos_some (m := m) hj
      exact ⟨v, by simpa using h1, by simp [aget, e, h2], fun v' => by simp [aput, e, h3]⟩
theorem apos_none : ∀ {m : List (Int × α)} {s : Int}, apos (m.map Prod.fst) s = none → aget m s = none ∧ ∀ v', aput m s v' = m ++ [(s, v')]
  | [], s, _ => ⟨rfl, fun _ => rfl⟩
  | (k, u) :: m, s, h => by
    simp only [List.map_cons, apos] at h
    by_cases e : k = s
    · rw [if_pos e] at h; cases h
    · rw [if_neg e] at h
      have h' : apos (m.map Prod.fst) s = none := by
        cases hq : apos (m.map Prod.fst) s with
        | none => rfl
        | some j => rw [hq] at h; cases h
      obtain ⟨h1, h2⟩ := apos_none (m := m) h'
      exact ⟨by simp [aget, e, h1], fun v' => by simp [aput, e, h2]⟩
theorem aget_key {m : List (Int × α)} {s : Int} : (aget m s).isSome = true ↔ s ∈ m.map Prod.fst := by
  induction m with
  | nil => simp [aget]
  | cons p r ih =>
    obtain ⟨k, u⟩ := p
    unfold aget
    by_cases e : k = s
    · simp [e]
    · rw [if_neg e, ih, List.map_cons, List.mem_cons]
      exact ⟨.inr, fun h => h.elim (fun q => absurd q.symm e) id⟩
end
theorem aput_nodup {α : Type} : ∀ {m : List (Int × α)}, (m.map Prod.fst).Nodup → ∀ (s : Int) (v : α), ((aput m s v).map Prod.fst).Nodup
  | [], _, s, v => by simp [aput]
  | (k, u) :: m, h, s, v => by
    simp only [List.map_cons, List.nodup_cons] at h
    unfold aput
    by_cases e : k = s
    · rw [if_pos e]
      simp only [List.map_cons, List.nodup_cons]
      exact h
    · rw [if_neg e]
      simp only [List.map_cons, List.nodup_cons]
      refine ⟨fun hm => ?_, aput_nodup h.2 s v⟩
      rw [← aget_key, aget_put] at hm
      by_cases e2 : s = k
      · exact e e2.symm
      · rw [if_neg e2, aget_key] at hm
        exact h.1 hm
abbrev VMap := List (Int × Value)
def hmapGet {α : Type} (M : List (Int × List α)) (q : Int) : Option (List α) := if i64ok q then some ((aget M q).getD []) else none
def hmapPut {α : Type} (M : List (Int × List α)) (q : Int) (l : List α) : Option (List (Int × List α)) := if i64ok q ∧ M.length < maxLen then some (aput M q l) else none
/-! ### two things that are owned, as one -/
def Res.star (A B : Res) (φ : Prop) : Res where
  p := fun s w bs => φ ∧ ∃ b1 b2, bs = b1 ++ b2 ∧ A.p s w b1 ∧ B.p s w b2
  loc := by
    rintro s w w' bs ⟨h, b1, b2, rfl, h1, h2⟩ hw
    exact ⟨h, b1, b2, rfl, A.loc h1 (fun b hb => hw b (List.mem_append_left _ hb)), B.loc h2 (fun b hb => hw b (List.mem_append_right _ hb))⟩
  mono := by
    rintro s t w bs l ⟨h, b1, b2, rfl, h1, h2⟩
    exact ⟨h, b1, b2, rfl, A.mono l h1, B.mono l h2⟩
  lt := by
    rintro s w bs ⟨h, b1, b2, rfl, h1, h2⟩ b hb
    rcases List.mem_append.1 hb with hb | hb
    · exact A.lt h1 b hb
    · exact B.lt h2 b hb
section
variable {w w0 : World} {s : PHeap} {H : List Res} {A B : Res} {φ : Prop}
theorem St.unstar (hS : St w0 s (.star A B φ :: H) w) : φ ∧ St w0 s (A :: B :: H) w := by
  obtain ⟨bs, hn, hs, b1, b2, e, ⟨hφ, c1, c2, rfl, h1, h2⟩, h3⟩ := hS.own
  exact ⟨hφ, hS.os, hS.tape, hS.output, hS.drawn, hS.size, hS.stay, bs, hn, hs, c1, c2 ++ b2, by rw [e, List.append_assoc], h1, c2, b2, rfl, h2, h3⟩
theorem St.star (hS : St w0 s (A :: B :: H) w) (h : φ) : St w0 s (.star A B φ :: H) w := by
  obtain ⟨bs, hn, hs, b1, b2, e, h1, c1, c2, rfl, h2, h3⟩ := hS.own
  exact ⟨hS.os, hS.tape, hS.output, hS.drawn, hS.size, hS.stay, bs, hn, hs, b1 ++ c1, c2, by rw [e, List.append_assoc], ⟨h, b1, c1, rfl, h1, h2⟩, h3⟩
/-- What is owned, seen otherwise. -/
theorem St.conv (hS : St w0 s (A :: H) w) (h : ∀ bs, A.p s w bs → B.p s w bs) : St w0 s (B :: H) w := by
  obtain ⟨bs, hn, hs, b1, b2, e, h1, h2⟩ := hS.own
  exact ⟨hS.os, hS.tape, hS.output, hS.drawn, hS.size, hS.stay, bs, hn, hs, b1, b2, e, h b1 h1, h2⟩
end
/-! ### the map, its elements as they lie -/
abbrev DV := DataW Value
def rawElem (v : Value) : Option (DV × List MemPlace) := if v.oneCell' = true then some (.held v, []) else none
theorem rawElem_inv {v : Value} {z : DV × List MemPlace} (h : rawElem v = some z) : z = (.held v, []) := by
  unfold rawElem at h
  split at h
  · exact (Zu h).symm
  · cases h
def VReads (D : DV) (m : VMap) : Prop := (∀ s : Int, Maps.has D (.int .i64 s) = (aget m s).isSome) ∧ (∀ (s : Int) (v : Value) (z : DV), aget m s = some v → D.atKey (.int .i64 s) z = .held v) ∧ Maps.size D = m.length
theorem vreads_nil : VReads (.map []) [] := ⟨fun s => rfl, (by intro s v z h; cases h), rfl⟩
theorem VReads.put {D : DV} {m : VMap} (h : VReads D m) (ht : Maps.Tidy D) (s : Int) (v : Value) : VReads (D.put (.int .i64 s) (.held v)) (aput m s v) := by
  obtain ⟨h1, h2, h3⟩ := h
  refine ⟨fun t => ?_, fun t u z ht2 => ?_, ?_⟩
  · rw [aget_put]
    by_cases e : s = t
    · subst e
      rw [if_pos rfl, Maps.has_put_same ht.isMap (isKeyLit_int _)]
      rfl
    · rw [if_neg e, Maps.has_put_other (fun he => e (by injection he with _ he; first | exact he.symm | exact he)), h1]
  · rw [aget_put] at ht2
    by_cases e : s = t
    · subst e
      rw [if_pos rfl] at ht2
      cases ht2
      rw [Maps.atKey_put_same ht.isMap (isKeyLit_int _)]
    · rw [if_neg e] at ht2
      rw [Maps.atKey_put_other (fun he => e (by injection he with _ he; first | exact he.symm | exact he))]
      exact h2 t u z ht2
  · rw [Maps.size_put ht, h1, aput_length, h3]
theorem vreads_at {D : DV} {m : VMap} (h : VReads D m) (q : Int) (z : Value) : D.atKey (.int .i64 q) (.held z) = .held ((aget m q).getD z) := by
  cases hm : aget m q with
  | some u => rw [h.2.1 q u _ hm]; rfl
  | none =>
    have hh := h.1 q
    rw [hm] at hh
    rw [Maps.atKey_of_not_has (D := D) (k := .int .i64 q) (by simpa using hh)]
    rfl
theorem ownsMap_tight' {H : Type} {P : Program} {k : TypeId} {R : Value → Option (DataW H × List MemPlace)} {w : World} {b n : Nat} {D : DataW H} (h : w.ownsMap P k R b n D) : w.ownsMap P k R b (Maps.size D) D := by
  obtain ⟨es, clock, hb, F, hs, rfl⟩ := h
  exact ⟨es, clock, hb, F, by simp [Maps.size, length_sorted], rfl⟩
def Res.vmap (P : Program) (k : TypeId) (b : Nat) (m : VMap) : Res where
  p := fun _ w bs => bs = [b] ∧ ∃ D : DV, w.ownsMap P k rawElem b m.length D ∧ VReads D m
  loc := by
    rintro s w w' bs ⟨rfl, D, ⟨es, clock, hb, r⟩, h2⟩ hw
    exact ⟨rfl, D, ⟨es, clock, by rw [hw b (by simp)]; exact hb, r⟩, h2⟩
  mono := fun _ h => h
  lt := by
    rintro s w bs ⟨rfl, D, h1, _⟩ b' hb
    simp at hb; subst hb
    exact h1.lt
/-- A type of maps of ints to slices. -/
def tyHMap (P : Program) (T k e : TypeId) : Prop := P.underlying T = some (.map k e) ∧ P.underlying k = some (.int .i64)
theorem zero_at {P : Program} {e : TypeId} {z : Value} (hz : tyZero P e = some z) (w : World) : (zeroValue e).run P w = .ok z w := by
  unfold tyZero at hz
  cases hi : P.info? e with
  | none => rw [hi] at hz; cases hz
  | some i =>
    rw [hi] at hz
    simp at hz
    simp [zeroValue, typeInfo, hi, hz, Result.andThen]
section
variable {P : Program} {ρ : Operand → Value} {o : Oper} {w w0 : World} {s : PHeap} {H : List Res} {K : Value → World → Prop} {T k e : TypeId} {b : Nat} {m : VMap}
theorem St.vmap_get (hS : St w0 s (.vmap P k b m :: H) w) : ∃ D : DV, w.ownsMap P k rawElem b m.length D ∧ VReads D m := by
  obtain ⟨bs, hn, hs, b1, b2, e, ⟨rfl, D, h1, h2⟩, h3⟩ := hS.own
  exact ⟨D, h1, h2⟩
abbrev nilS : Value := .slice none 0 0
theorem Exec.make_vmap (hS : St w0 s H w) (ho : o.op = .makeMap T none) (hk : ∀ b w', St w0 s (.vmap P k b [] :: H) w' → K (.map (some b)) w') : Exec P ρ o w K := by
  have hrun : (Instr.makeMap T none).run P w = .ok (.map (some w.heap.size)) (w.alloc (.map #[] 0)) := rfl
  refine .of_run (v := .map (some w.heap.size)) (w' := w.alloc (.map #[] 0)) ?_ (hk _ _ ?_)
  · unfold execOp
    simp only [ho, Option.map_none, Sem.run_bind, hrun, Result.andThen_ok, Sem.run_pure]
  · obtain ⟨bs, hn, hs, hb⟩ := hS.own
    have hlt := hb.lt
    refine ⟨hS.os, hS.tape, hS.output, hS.drawn, Nat.le_trans hS.size (by simp), fun b o hbo => ?_, w.heap.size :: bs, List.nodup_cons.2 ⟨fun hm => Nat.lt_irrefl _ (hlt _ hm), hn⟩, ?_, [w.heap.size], bs, rfl, ⟨rfl, .map [], World.ownsMap_made w P k _, vreads_nil⟩, hb.loc fun b hm => heap_push_lt w _ (hlt b hm)⟩
    · have := hS.stay b o hbo
      rw [heap_push_lt w _ (Array.getElem?_eq_some_iff.1 this).1]
      exact this
    · intro b hm
      rcases List.mem_cons.1 hm with e | hm
      · subst e; exact hS.new
      · exact hs b hm
theorem Exec.vmap_look {x y : Operand} {q : Int} (hS : St w0 s (.vmap P k b m :: H) w) (hT : tyHMap P T k e) (hz : tyZero P e = some nilS) (ho : o.op = .lookup T x y false) (hx : ρ x = .map (some b)) (hy : ρ y = .int .i64 q)
    (hq : i64ok q) (hk : K ((aget m q).getD nilS) w) : Exec P ρ o w K := by
  obtain ⟨D, h1, h2⟩ := hS.vmap_get
  obtain ⟨t1, t2⟩ := hT
  have K' : Maps.Keyed P k := Maps.int_keyed t2
  have hkey := Maps.keyOf_int_mk t2 (i64ok_wf hq)
  obtain ⟨v, ps, hrun, hv⟩ := h1.lookup K' t1 (zero_at hz w) (show rawElem nilS = some (.held nilS, []) from rfl) hkey
  have hv2 := rawElem_inv hv
  rw [vreads_at h2] at hv2
  simp only [Prod.mk.injEq, DataW.held.injEq] at hv2
  refine .of_run (w' := w) (v := v) ?_ (by rw [← hv2.1]; exact hk)
  unfold execOp
  simp [ho, hx, hy, hrun, Result.andThen]
theorem Exec.vmap_put {x y z : Operand} {q : Int} {v : Value} (hS : St w0 s (.vmap P k b m :: H) w) (hT : tyHMap P T k e) (ho : o.op = .mapUpdate T x y z) (hx : ρ x = .map (some b)) (hy : ρ y = .int .i64 q) (hz : ρ z = v) (h1c : v.oneCell' = true)
    (hq : i64ok q) (hm : m.length < maxLen) (hk : ∀ w', St w0 s (.vmap P k b (aput m q v) :: H) w' → K undef w') : Exec P ρ o w K := by
  obtain ⟨D, h1, h2⟩ := hS.vmap_get
  obtain ⟨t1, t2⟩ := hT
  have K' : Maps.Keyed P k := Maps.int_keyed t2
  have hkey := Maps.keyOf_int_mk t2 (i64ok_wf hq)
  obtain ⟨w', hrun, h3, hT'⟩ := h1.store K' t1 hm hkey (show rawElem v = some (.held v, []) by unfold rawElem; rw [if_pos h1c])
  have h4 := hT'.grown
  have hdr : w.drawn = w'.drawn := by obtain ⟨es, c, es', c', _, rfl⟩ := hT'; rfl
  have h5 := h2.put (h1.tidy K') q v
  refine .of_skip (w' := w') ?_ (hk _ ?_)
  · unfold execOp
    simp [ho, hx, hy, hz, hrun, Result.andThen]
  · refine hS.turn h4.os h4.tape h4.output (Nat.le_of_eq hdr) h4.size ?_
    intro b1 hb1
    obtain ⟨hb1, _⟩ := hb1
    subst hb1
    refine ⟨[b], ⟨rfl, _, ?_, h5⟩, by simp, fun b' hb => .inl hb, fun b' hlt hne => h4.block b' hlt (by simp at hne; simpa using hne)⟩
    have := ownsMap_tight' h3
    rw [h5.2.2] at this
    exact this
end
/-! ### with its rows -/
section
variable {α : Type}
def Res.hmap (P : Program) (k : TypeId) (E : Enc α) (Te : TypeId) (b : Nat) (m : VMap) (M : List (Int × List α)) : Res := .star (.vmap P k b m) (.rows E Te (m.map Prod.snd) (M.map Prod.snd)) (m.map Prod.fst = M.map Prod.fst ∧ (m.map Prod.fst).Nodup)
/-- One row taken out. -/
def Res.hole (E : Enc α) (Te : TypeId) (ks : List Int) (hs : List Value) (xss : List (List α)) (q : Int) : Res := match apos ks q with
  | some i => .rows E Te (hs.eraseIdx i) (xss.eraseIdx i)
  | none => .rows E Te hs xss
def Res.hpull (P : Program) (k : TypeId) (E : Enc α) (Te : TypeId) (b : Nat) (m : VMap) (M : List (Int × List α)) (q : Int) (v : Value) (l : List α) : Res :=
  .star (.arr E Te v l) (.star (.vmap P k b m) (.hole E Te (m.map Prod.fst) (m.map Prod.snd) (M.map Prod.snd) q) True) (m.map Prod.fst = M.map Prod.fst ∧ (m.map Prod.fst).Nodup)
variable {P : Program} {ρ : Operand → Value} {o : Oper} {w w0 : World} {s : PHeap} {H : List Res} {K : Value → World → Prop} {T k e Te : TypeId} {b : Nat} {m : VMap} {E : Enc α} {M : List (Int × List α)} {q : Int}
theorem Exec.make_hmap (hS : St w0 s H w) (ho : o.op = .makeMap T none) (hk : ∀ b w', St w0 s (.hmap P k E Te b [] [] :: H) w' → K (.map (some b)) w') : Exec P ρ o w K :=
  Exec.make_vmap (k := k) hS ho fun b w' h => hk b w' (St.star (((h.rows_nil E Te).perm (.swap _ _ _))) ⟨rfl, List.nodup_nil⟩)
theorem Exec.hmap_look {x y : Operand} {r : List α} (hS : St w0 s (.hmap P k E Te b m M :: H) w) (hT : tyHMap P T k e) (hz : tyZero P e = some nilS) (ho : o.op = .lookup T x y false) (hx : ρ x = .map (some b)) (hy : ρ y = .int .i64 q)
    (hg : hmapGet M q = some r) (hk : K ((aget m q).getD nilS) w) : Exec P ρ o w K := by
  unfold hmapGet at hg
  split at hg
  · rename_i hq
    exact Exec.vmap_look (St.unstar hS).2 hT hz ho hx hy hq hk
  · cases hg
theorem St.hmap_pull {r : List α} (hS : St w0 s (.hmap P k E Te b m M :: H) w) (hg : hmapGet M q = some r) : (m.map Prod.fst = M.map Prod.fst ∧ (m.map Prod.fst).Nodup) ∧ St w0 s (.arr E Te ((aget m q).getD nilS) r :: .vmap P k b m :: .hole E Te (m.map Prod.fst) (m.map Prod.snd) (M.map Prod.snd) q :: H) w := by
  obtain ⟨hkeys', h1⟩ := St.unstar hS
  obtain ⟨hkeys, _⟩ := id hkeys'
  refine ⟨hkeys', ?_⟩
  unfold hmapGet at hg
  split at hg
  · cases hg
    have h2 := h1.perm (.swap _ _ _)
    unfold Res.hole
    cases hp : apos (m.map Prod.fst) q with
    | some i =>
      obtain ⟨v, g1, g2, _⟩ := apos_some hp
      rw [hkeys] at hp
      obtain ⟨x, x1, x2, _⟩ := apos_some hp
      rw [g2, x2]
      exact (h2.rows_split g1 x1).perm ((List.Perm.cons _ (.swap _ _ _)))
    | none =>
      obtain ⟨g1, _⟩ := apos_none hp
      rw [hkeys] at hp
      obtain ⟨x1, _⟩ := apos_none hp
      rw [g1, x1]
      exact (h2.nilArr E Te).perm (List.Perm.cons _ (.swap _ _ _))
  · cases hg
/-- A row of the map is lengthened; the map has not its new header yet. -/
theorem Exec.hmap_append {u z : Value} {r ys zs : List α} {t by_ n cap c : Nat} {cs : List Value} {x y : Operand} (hS : St w0 s (.hmap P k E Te b m M :: .box c Te cs :: H) w) (hg : hmapGet M q = some r)
    (hT : tySlice P t = some (Te, E.sz, by_)) (hz : tyZero P Te = some z) (hzs : z.cells.size = E.sz) (hby : 0 < by_) (ho : o.op = .call { callee := .builtin .append, args := #[x, y], argTypes := #[t, t] }) (hx : ρ x = (aget m q).getD nilS) (hy : ρ y = u)
    (hu : u = .slice (some ⟨c, 0, none⟩) n cap) (hr : reps E s cs ys) (hn : n = ys.length) (ha : app by_ r ys = some zs)
    (hk : ∀ v' w', St w0 s (.hpull P k E Te b m M q v' zs :: H) w' → K v' w') : Exec P ρ o w K := by
  obtain ⟨hkeys, h1⟩ := hS.hmap_pull hg
  -- arr :: vmap :: hole :: box :: H  ->  arr :: box :: vmap :: hole :: H
  have h2 := h1.perm (List.Perm.cons _ (show (Res.vmap P k b m :: Res.hole E Te (m.map Prod.fst) (m.map Prod.snd) (M.map Prod.snd) q :: Res.box c Te cs :: H).Perm (Res.box c Te cs :: Res.vmap P k b m :: Res.hole E Te (m.map Prod.fst) (m.map Prod.snd) (M.map Prod.snd) q :: H) from ((List.Perm.cons _ (.swap _ _ _)).trans (.swap _ _ _))))
  refine Exec.append_box h2 hT hz hzs hby ho hx hy hu hr hn ha fun v' w' h3 => hk v' w' ?_
  have h4 := h3.perm (List.perm_append_comm (l₁ := [_]) |>.trans (.refl _))
  exact (show St w0 s (.arr E Te v' zs :: .star (.vmap P k b m) (.hole E Te (m.map Prod.fst) (m.map Prod.snd) (M.map Prod.snd) q) True :: H) w' from by
    obtain ⟨bs, hn, hs, b1, b2, e, k1, c1, c2, rfl, k2, d1, d2, rfl, k3, k4⟩ := h3.own
    exact ⟨h3.os, h3.tape, h3.output, h3.drawn, h3.size, h3.stay, bs, hn, hs, b1, (c1 ++ d1) ++ d2, by rw [e, List.append_assoc], k1, c1 ++ d1, d2, rfl, ⟨trivial, c1, d1, rfl, k2, k3⟩, k4⟩).star hkeys
theorem hole_fill {w : World} {v : Value} {l : List α} (hkeys : m.map Prod.fst = M.map Prod.fst) (hS : St w0 s (.arr E Te v l :: .hole E Te (m.map Prod.fst) (m.map Prod.snd) (M.map Prod.snd) q :: H) w) :
    St w0 s (.rows E Te ((aput m q v).map Prod.snd) ((aput M q l).map Prod.snd) :: H) w := by
  unfold Res.hole at hS
  cases hp : apos (m.map Prod.fst) q with
  | some i =>
    rw [hp] at hS
    obtain ⟨u, g1, _, g3⟩ := apos_some hp
    rw [hkeys] at hp
    obtain ⟨x, x1, _, x3⟩ := apos_some hp
    rw [g3, x3]
    exact hS.rows_join (List.getElem?_eq_some_iff.1 g1).1 (List.getElem?_eq_some_iff.1 x1).1
  | none =>
    rw [hp] at hS
    obtain ⟨_, g3⟩ := apos_none hp
    rw [hkeys] at hp
    obtain ⟨_, x3⟩ := apos_none hp
    rw [g3, x3, List.map_append, List.map_append]
    exact hS.rows_push
theorem Exec.hmap_put {x y z : Operand} {v : Value} {l : List α} {M' : List (Int × List α)} (hS : St w0 s (.hpull P k E Te b m M q v l :: H) w) (hT : tyHMap P T k e) (ho : o.op = .mapUpdate T x y z) (hx : ρ x = .map (some b)) (hy : ρ y = .int .i64 q) (hz : ρ z = v)
    (hg : hmapPut M q l = some M') (hk : ∀ w', St w0 s (.hmap P k E Te b (aput m q v) M' :: H) w' → K undef w') : Exec P ρ o w K := by
  obtain ⟨⟨hkeys, hnd⟩, h1⟩ := St.unstar hS
  have h1c := h1.arr_one
  obtain ⟨_, h2⟩ := St.unstar (h1.perm (.swap _ _ _))
  unfold hmapPut at hg
  split at hg
  · rename_i hq
    obtain ⟨hq, hm⟩ := hq
    cases hg
    have hml : m.length < maxLen := by
      have := congrArg List.length hkeys
      simp only [List.length_map] at this
      omega
    refine Exec.vmap_put h2 hT ho hx hy hz h1c hq hml fun w' h3 => hk w' ?_
    have h4 := h3.perm (show (Res.vmap P k b (aput m q v) :: Res.hole E Te (m.map Prod.fst) (m.map Prod.snd) (M.map Prod.snd) q :: Res.arr E Te v l :: H).Perm (Res.arr E Te v l :: Res.hole E Te (m.map Prod.fst) (m.map Prod.snd) (M.map Prod.snd) q :: Res.vmap P k b (aput m q v) :: H) from
      ((List.Perm.swap _ _ _).trans ((List.Perm.cons _ (.swap _ _ _)).trans (.swap _ _ _))))
    exact ((hole_fill hkeys h4).perm (.swap _ _ _)).star ⟨aput_keys hkeys q v l, aput_nodup hnd q v⟩
  · cases hg
/-! ### given to what stays, but for the map itself -/
def Res.fmap (P : Program) (k : TypeId) (E : Enc α) (b : Nat) (M : List (Int × List α)) : Res where
  p := fun s w bs => bs = [b] ∧ ∃ (m : VMap) (D : DV), w.ownsMap P k rawElem b m.length D ∧ VReads D m ∧ m.map Prod.fst = M.map Prod.fst ∧ reps (encSlice E) s (m.map Prod.snd) (M.map Prod.snd)
  loc := by
    rintro s w w' bs ⟨rfl, m, D, ⟨es, clock, hb, r⟩, h2⟩ hw
    exact ⟨rfl, m, D, ⟨es, clock, by rw [hw b (by simp)]; exact hb, r⟩, h2⟩
  mono := by
    rintro s t w bs l ⟨rfl, m, D, h1, h2, h3, h4⟩
    exact ⟨rfl, m, D, h1, h2, h3, h4.mono l⟩
  lt := by
    rintro s w bs ⟨rfl, m, D, h1, _⟩ b' hb
    simp at hb; subst hb
    exact h1.lt
theorem St.freezeHmap (hS : St w0 s (.hmap P k E Te b m M :: H) w) : ∃ t, PHeap.le s t ∧ St w0 t (.fmap P k E b M :: H) w := by
  obtain ⟨⟨hkeys, _⟩, h1⟩ := St.unstar hS
  obtain ⟨bs1, t1, hp1, hle1, hbs1, hS1⟩ := (h1.perm (.swap _ _ _)).freezeWith
  refine ⟨t1, hle1, hS1.conv ?_⟩
  rintro bs ⟨rfl, D, g1, g2⟩
  exact ⟨rfl, m, D, g1, g2, hkeys, rowsP.rep hle1 hp1 hbs1⟩
theorem reps_slices : ∀ {hs : List Value} {xss : List (List α)} {i : Nat} {v : Value} {xs : List α}, reps (encSlice E) s hs xss → hs[i]? = some v → xss[i]? = some xs → SliceRep E s v xs
  | hs, [], i, v, xs, _, _, h => by simp at h
  | hs, x :: xss, 0, v, xs, ⟨c, r, e, ⟨u, hu, h1⟩, h2⟩, hv, hx => by
    subst hu
    subst e
    simp at hv hx
    subst hv hx
    exact h1
  | hs, x :: xss, i + 1, v, xs, ⟨c, r, e, ⟨u, hu, h1⟩, h2⟩, hv, hx => by
    subst hu
    subst e
    exact reps_slices h2 (by simpa using hv) (by simpa using hx)
theorem Exec.fmap_look {x y : Operand} {r : List α} (hS : St w0 s (.fmap P k E b M :: H) w) (hT : tyHMap P T k e) (hz : tyZero P e = some nilS) (ho : o.op = .lookup T x y false) (hx : ρ x = .map (some b)) (hy : ρ y = .int .i64 q)
    (hg : hmapGet M q = some r) (hk : ∀ v, (encSlice E).val s v r → K v w) : Exec P ρ o w K := by
  obtain ⟨bs, hn, hs, b1, b2, e0, ⟨rfl, m, D, h1, h2, hkeys, hreps⟩, h3⟩ := hS.own
  unfold hmapGet at hg
  split at hg
  · rename_i hq
    cases hg
    obtain ⟨t1, t2⟩ := hT
    have K' : Maps.Keyed P k := Maps.int_keyed t2
    have hkey := Maps.keyOf_int_mk t2 (i64ok_wf hq)
    obtain ⟨v, ps, hrun, hv⟩ := h1.lookup K' t1 (zero_at hz w) (show rawElem nilS = some (.held nilS, []) from rfl) hkey
    have hv2 := rawElem_inv hv
    rw [vreads_at h2] at hv2
    simp only [Prod.mk.injEq, DataW.held.injEq] at hv2
    refine .of_run (w' := w) (v := v) ?_ (hk v ?_)
    · unfold execOp
      simp [ho, hx, hy, hrun, Result.andThen]
    · rw [← hv2.1, encSlice_val]
      cases hp : apos (m.map Prod.fst) q with
      | some i =>
        obtain ⟨u, g1, g2, _⟩ := apos_some hp
        rw [hkeys] at hp
        obtain ⟨xs, x1, x2, _⟩ := apos_some hp
        rw [g2, x2]
        exact reps_slices hreps g1 x1
      | none =>
        obtain ⟨g1, _⟩ := apos_none hp
        rw [hkeys] at hp
        obtain ⟨x1, _⟩ := apos_none hp
        rw [g1, x1]
        exact SliceRep.nil _ _
  · cases hg
end
end Go.Pw
