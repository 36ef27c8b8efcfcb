/-
  My walk's base, part 48: a map of strings to slices that the call owns, with the slices' rows (as part 40 does for ints).
-/
import Derived.Test.YtcabhickgjhkhaaGreatDoorLC
import Derived.Test.YtcabhickgjhkhaaGreatDoorLD
set_option linter.unusedSimpArgs false
set_option linter.unusedVariables false
namespace Go.Pw
/-! ### the pure words -/
def tget {α : Type} : List (ByteArray × α) → ByteArray → Option α
  | [], _ => none
  | (k, v) :: r, s => if k = s then some v else tget r s
def tput {α : Type} : List (ByteArray × α) → ByteArray → α → List (ByteArray × α)
  | [], s, v => [(s, v)]
  | (k, u) :: r, s, v => if k = s then (k, v) :: r else (k, u) :: tput r s v
def tpos : List ByteArray → ByteArray → Option Nat
  | [], _ => none
  | k :: r, s => if k = s then some 0 else (tpos r s).map (· + 1)
section
variable {α β : Type}
theorem tput_length (m : List (ByteArray × α)) (s : ByteArray) (v : α) : (tput m s v).length = if (tget m s).isSome then m.length else m.length + 1 := by
  induction m with
  | nil => simp [tput, tget]
  | cons p r ih =>
    obtain ⟨k, u⟩ := p
    unfold tput tget
    by_cases h : k = s
    · rw [if_pos h, if_pos h]; simp
    · rw [if_neg h, if_neg h, List.length_cons, ih]
      split <;> simp
theorem tget_put (m : List (ByteArray × α)) (s t : ByteArray) (v : α) : tget (tput m s v) t = if s = t then some v else tget m t := by
  induction m with
  | nil => simp [tput, tget]
  | cons p r ih =>
    obtain ⟨k, u⟩ := p
    unfold tput
    by_cases h : k = s
    · rw [if_pos h]
      unfold tget
      by_cases h2 : s = t
      · rw [if_pos h2, if_pos (h.trans h2)]
      · have h3 : ¬ k = t := fun e => h2 (h.symm.trans e)
        rw [if_neg h2, if_neg h3, if_neg h3]
    · rw [if_neg h]
      unfold tget
      rw [ih]
      by_cases h2 : k = t
      · have h3 : ¬ s = t := fun e => h (h2.trans e.symm)
        rw [if_pos h2, if_neg h3, if_pos h2]
      · rw [if_neg h2, if_neg h2]
theorem tput_keys : ∀ {m : List (ByteArray × α)} {M : List (ByteArray × β)}, m.map Prod.fst = M.map Prod.fst → ∀ (s : ByteArray) (v : α) (x : β), (tput m s v).map Prod.fst = (tput M s x).map Prod.fst
  | [], [], _, s, v, x => rfl
  | [], _ :: _, h, _, _, _ => by simp at h
  | _ :: _, [], h, _, _, _ => by simp at h
  | (k, u) :: m, (k', y) :: M, h, s, v, x => by
    simp only [List.map_cons, List.cons.injEq] at h
    obtain ⟨rfl, h⟩ := h
    unfold tput
    by_cases e : k = s
    · simp [e, h]
    · simp [e, tput_keys h s v x]
theorem tpos_some : ∀ {m : List (ByteArray × α)} {s : ByteArray} {i : Nat}, tpos (m.map Prod.fst) s = some i → ∃ v, (m.map Prod.snd)[i]? = some v ∧ tget m s = some v ∧ ∀ v', (tput m s v').map Prod.snd = (m.map Prod.snd).set i v'
  | [], s, i, h => by simp [tpos] at h
  | (k, u) :: m, s, i, h => by
    simp only [List.map_cons, tpos] at h
    by_cases e : k = s
    · rw [if_pos e] at h
      cases h
      exact ⟨u, rfl, by simp [tget, e], fun v' => by simp [tput, e]⟩
    · rw [if_neg e] at h
      obtain ⟨j, hj, rfl⟩ := Option.map_eq_some_iff.1 h
      obtain ⟨v, h1, h2, h3⟩ := tpos_some (m := m) hj
      exact ⟨v, by simpa using h1, by simp [tget, e, h2], fun v' => by simp [tput, e, h3]⟩
theorem tpos_none : ∀ {m : List (ByteArray × α)} {s : ByteArray}, tpos (m.map Prod.fst) s = none → tget m s = none ∧ ∀ v', tput m s v' = m ++ [(s, v')]
  | [], s, _ => ⟨rfl, fun _ => rfl⟩
  | (k, u) :: m, s, h => by
    simp only [List.map_cons, tpos] at h
    by_cases e : k = s
    · rw [if_pos e] at h; cases h
    · rw [if_neg e] at h
      have h' : tpos (m.map Prod.fst) s = none := by
        cases hq : tpos (m.map Prod.fst) s with
        | none => rfl
        | some j => rw [hq] at h; cases h
      obtain ⟨h1, h2⟩ := tpos_none (m := m) h'
      exact ⟨by simp [tget, e, h1], fun v' => by simp [tput, e, h2]⟩
theorem tget_key {m : List (ByteArray × α)} {s : ByteArray} : (tget m s).isSome = true ↔ s ∈ m.map Prod.fst := by
  induction m with
  | nil => simp [tget]
  | cons p r ih =>
    obtain ⟨k, u⟩ := p
    unfold tget
    by_cases e : k = s
    · simp [e]
    · rw [if_neg e, ih, List.map_cons, List.mem_cons]
      exact ⟨.inr, fun h => h.elim (fun q => absurd q.symm e) id⟩
end
theorem tput_nodup {α : Type} : ∀ {m : List (ByteArray × α)}, (m.map Prod.fst).Nodup → ∀ (s : ByteArray) (v : α), ((tput m s v).map Prod.fst).Nodup
  | [], _, s, v => by simp [tput]
  | (k, u) :: m, h, s, v => by
    simp only [List.map_cons, List.nodup_cons] at h
    unfold tput
    by_cases e : k = s
    · rw [if_pos e]
      simp only [List.map_cons, List.nodup_cons]
      exact h
    · rw [if_neg e]
      simp only [List.map_cons, List.nodup_cons]
      refine ⟨fun hm => ?_, tput_nodup h.2 s v⟩
      rw [← tget_key, tget_put] at hm
      by_cases e2 : s = k
      · exact e e2.symm
      · rw [if_neg e2, tget_key] at hm
        exact h.1 hm
theorem skey_inj {s t : ByteArray} (h : skey s = skey t) : s = t := by
  have h2 : s.data.toList = t.data.toList := by injection h
  exact ByteArray.ext (Array.toList_inj.1 h2)
abbrev TMap := List (ByteArray × Value)
def thGet {α : Type} (M : List (ByteArray × List α)) (q : ByteArray) : Option (List α) := if q.size ≤ maxLen then some ((tget M q).getD []) else none
def thPut {α : Type} (M : List (ByteArray × List α)) (q : ByteArray) (l : List α) : Option (List (ByteArray × List α)) := if q.size ≤ maxLen ∧ M.length < maxLen then some (tput M q l) else none
/-! ### the map, its elements as they lie -/
def TReads (D : DV) (m : TMap) : Prop := (∀ s : ByteArray, Maps.has D (skey s) = (tget m s).isSome) ∧ (∀ (s : ByteArray) (v : Value) (z : DV), tget m s = some v → D.atKey (skey s) z = .held v) ∧ Maps.size D = m.length
theorem treads_nil : TReads (.map []) [] := ⟨fun s => rfl, (by intro s v z h; cases h), rfl⟩
theorem TReads.put {D : DV} {m : TMap} (h : TReads D m) (ht : Maps.Tidy D) (s : ByteArray) (v : Value) : TReads (D.put (skey s) (.held v)) (tput m s v) := by
  obtain ⟨h1, h2, h3⟩ := h
  refine ⟨fun t => ?_, fun t u z ht2 => ?_, ?_⟩
  · rw [tget_put]
    by_cases e : s = t
    · subst e
      rw [if_pos rfl, Maps.has_put_same ht.isMap (isKeyLit_str _)]
      rfl
    · rw [if_neg e, Maps.has_put_other (fun he => e (by first | exact skey_inj he | exact (skey_inj he).symm)), h1]
  · rw [tget_put] at ht2
    by_cases e : s = t
    · subst e
      rw [if_pos rfl] at ht2
      cases ht2
      rw [Maps.atKey_put_same ht.isMap (isKeyLit_str _)]
    · rw [if_neg e] at ht2
      rw [Maps.atKey_put_other (fun he => e (by first | exact skey_inj he | exact (skey_inj he).symm))]
      exact h2 t u z ht2
  · rw [Maps.size_put ht, h1, tput_length, h3]
theorem treads_at {D : DV} {m : TMap} (h : TReads D m) (q : ByteArray) (z : Value) : D.atKey (skey q) (.held z) = .held ((tget m q).getD z) := by
  cases hm : tget m q with
  | some u => rw [h.2.1 q u _ hm]; rfl
  | none =>
    have hh := h.1 q
    rw [hm] at hh
    rw [Maps.atKey_of_not_has (D := D) (k := skey q) (by simpa using hh)]
    rfl
def Res.tvmap (P : Program) (k : TypeId) (b : Nat) (m : TMap) : Res where
  p := fun _ w bs => bs = [b] ∧ ∃ D : DV, w.ownsMap P k rawElem b m.length D ∧ TReads D m
  loc := by
    rintro s w w' bs ⟨rfl, D, ⟨es, clock, hb, r⟩, h2⟩ hw
    exact ⟨rfl, D, ⟨es, clock, by rw [hw b (by simp)]; exact hb, r⟩, h2⟩
  mono := fun _ h => h
  lt := by
    rintro s w bs ⟨rfl, D, h1, _⟩ b' hb
    simp at hb; subst hb
    exact h1.lt
/-- A type of maps of strings to slices. -/
def tyTMap (P : Program) (T k e : TypeId) : Prop := P.underlying T = some (.map k e) ∧ P.underlying k = some .string
section
variable {P : Program} {ρ : Operand → Value} {o : Oper} {w w0 : World} {s : PHeap} {H : List Res} {K : Value → World → Prop} {T k e : TypeId} {b : Nat} {m : TMap}
theorem St.tvmap_get (hS : St w0 s (.tvmap P k b m :: H) w) : ∃ D : DV, w.ownsMap P k rawElem b m.length D ∧ TReads D m := by
  obtain ⟨bs, hn, hs, b1, b2, e, ⟨rfl, D, h1, h2⟩, h3⟩ := hS.own
  exact ⟨D, h1, h2⟩
theorem Exec.make_tvmap (hS : St w0 s H w) (ho : o.op = .makeMap T none) (hk : ∀ b w', St w0 s (.tvmap P k b [] :: H) w' → K (.map (some b)) w') : Exec P ρ o w K := by
  have hrun : (Instr.makeMap T none).run P w = .ok (.map (some w.heap.size)) (w.alloc (.map #[] 0)) := rfl
  refine .of_run (v := .map (some w.heap.size)) (w' := w.alloc (.map #[] 0)) ?_ (hk _ _ ?_)
  · unfold execOp
    simp only [ho, Option.map_none, Sem.run_bind, hrun, Result.andThen_ok, Sem.run_pure]
  · obtain ⟨bs, hn, hs, hb⟩ := hS.own
    have hlt := hb.lt
    refine ⟨hS.os, hS.tape, hS.output, hS.drawn, Nat.le_trans hS.size (by simp), fun b o hbo => ?_, w.heap.size :: bs, List.nodup_cons.2 ⟨fun hm => Nat.lt_irrefl _ (hlt _ hm), hn⟩, ?_, [w.heap.size], bs, rfl, ⟨rfl, .map [], World.ownsMap_made w P k _, treads_nil⟩, hb.loc fun b hm => heap_push_lt w _ (hlt b hm)⟩
    · have := hS.stay b o hbo
      rw [heap_push_lt w _ (Array.getElem?_eq_some_iff.1 this).1]
      exact this
    · intro b hm
      rcases List.mem_cons.1 hm with e | hm
      · subst e; exact hS.new
      · exact hs b hm
theorem Exec.tvmap_look {x y : Operand} {q : ByteArray} (hS : St w0 s (.tvmap P k b m :: H) w) (hT : tyTMap P T k e) (hz : tyZero P e = some nilS) (ho : o.op = .lookup T x y false) (hx : ρ x = .map (some b)) (hy : ρ y = .string q)
    (hq : q.size ≤ maxLen) (hk : K ((tget m q).getD nilS) w) : Exec P ρ o w K := by
  obtain ⟨D, h1, h2⟩ := hS.tvmap_get
  obtain ⟨t1, t2⟩ := hT
  have K' : Maps.Keyed P k := Maps.string_keyed t2
  have hkey := WideMaps.keyOf_string_mk t2 hq
  obtain ⟨v, ps, hrun, hv⟩ := h1.lookup K' t1 (zero_at hz w) (show rawElem nilS = some (.held nilS, []) from rfl) hkey
  have hv2 := rawElem_inv hv
  rw [treads_at h2] at hv2
  simp only [Prod.mk.injEq, DataW.held.injEq] at hv2
  refine .of_run (w' := w) (v := v) ?_ (by rw [← hv2.1]; exact hk)
  unfold execOp
  simp [ho, hx, hy, hrun, Result.andThen]
theorem Exec.tvmap_put {x y z : Operand} {q : ByteArray} {v : Value} (hS : St w0 s (.tvmap P k b m :: H) w) (hT : tyTMap P T k e) (ho : o.op = .mapUpdate T x y z) (hx : ρ x = .map (some b)) (hy : ρ y = .string q) (hz : ρ z = v) (h1c : v.oneCell' = true)
    (hq : q.size ≤ maxLen) (hm : m.length < maxLen) (hk : ∀ w', St w0 s (.tvmap P k b (tput m q v) :: H) w' → K undef w') : Exec P ρ o w K := by
  obtain ⟨D, h1, h2⟩ := hS.tvmap_get
  obtain ⟨t1, t2⟩ := hT
  have K' : Maps.Keyed P k := Maps.string_keyed t2
  have hkey := WideMaps.keyOf_string_mk t2 hq
  obtain ⟨w', hrun, h3, hT'⟩ := h1.store K' t1 hm hkey (show rawElem v = some (.held v, []) by unfold rawElem; rw [if_pos h1c])
  have h4 := hT'.grown
  have hdr : w.drawn = w'.drawn := by obtain ⟨es, c, es', c', _, rfl⟩ := hT'; rfl
  have h5 := h2.put (h1.tidy K') q v
  refine .of_skip (w' := w') ?_ (hk _ ?_)
  · unfold execOp
    simp [ho, hx, hy, hz, hrun, Result.andThen]
  · refine hS.turn h4.os h4.tape h4.output (Nat.le_of_eq hdr) h4.size ?_
    intro b1 hb1
    obtain ⟨hb1, _⟩ := hb1
    subst hb1
    refine ⟨[b], ⟨rfl, _, ?_, h5⟩, by simp, fun b' hb => .inl hb, fun b' hlt hne => h4.block b' hlt (by simp at hne; simpa using hne)⟩
    have := ownsMap_tight' h3
    rw [h5.2.2] at this
    exact this
end
/-! ### with its rows -/
section
variable {α : Type}
def Res.thmap (P : Program) (k : TypeId) (E : Enc α) (Te : TypeId) (b : Nat) (m : TMap) (M : List (ByteArray × List α)) : Res := .star (.tvmap P k b m) (.rows E Te (m.map Prod.snd) (M.map Prod.snd)) (m.map Prod.fst = M.map Prod.fst ∧ (m.map Prod.fst).Nodup)
/-- One row taken out. -/
def Res.thole (E : Enc α) (Te : TypeId) (ks : List ByteArray) (hs : List Value) (xss : List (List α)) (q : ByteArray) : Res := match tpos ks q with
  | some i => .rows E Te (hs.eraseIdx i) (xss.eraseIdx i)
  | none => .rows E Te hs xss
def Res.thpull (P : Program) (k : TypeId) (E : Enc α) (Te : TypeId) (b : Nat) (m : TMap) (M : List (ByteArray × List α)) (q : ByteArray) (v : Value) (l : List α) : Res :=
  .star (.arr E Te v l) (.star (.tvmap P k b m) (.thole E Te (m.map Prod.fst) (m.map Prod.snd) (M.map Prod.snd) q) True) (m.map Prod.fst = M.map Prod.fst ∧ (m.map Prod.fst).Nodup)
variable {P : Program} {ρ : Operand → Value} {o : Oper} {w w0 : World} {s : PHeap} {H : List Res} {K : Value → World → Prop} {T k e Te : TypeId} {b : Nat} {m : TMap} {E : Enc α} {M : List (ByteArray × List α)} {q : ByteArray}
theorem Exec.make_thmap (hS : St w0 s H w) (ho : o.op = .makeMap T none) (hk : ∀ b w', St w0 s (.thmap P k E Te b [] [] :: H) w' → K (.map (some b)) w') : Exec P ρ o w K :=
  Exec.make_tvmap (k := k) hS ho fun b w' h => hk b w' (St.star (((h.rows_nil E Te).perm (.swap _ _ _))) ⟨rfl, List.nodup_nil⟩)
theorem Exec.thmap_look {x y : Operand} {r : List α} (hS : St w0 s (.thmap P k E Te b m M :: H) w) (hT : tyTMap P T k e) (hz : tyZero P e = some nilS) (ho : o.op = .lookup T x y false) (hx : ρ x = .map (some b)) (hy : ρ y = .string q)
    (hg : thGet M q = some r) (hk : K ((tget m q).getD nilS) w) : Exec P ρ o w K := by
  unfold thGet at hg
  split at hg
  · rename_i hq
    exact Exec.tvmap_look (St.unstar hS).2 hT hz ho hx hy hq hk
  · cases hg
theorem St.thmap_pull {r : List α} (hS : St w0 s (.thmap P k E Te b m M :: H) w) (hg : thGet M q = some r) : (m.map Prod.fst = M.map Prod.fst ∧ (m.map Prod.fst).Nodup) ∧ St w0 s (.arr E Te ((tget m q).getD nilS) r :: .tvmap P k b m :: .thole E Te (m.map Prod.fst) (m.map Prod.snd) (M.map Prod.snd) q :: H) w := by
  obtain ⟨hkeys', h1⟩ := St.unstar hS
  obtain ⟨hkeys, _⟩ := id hkeys'
  refine ⟨hkeys', ?_⟩
  unfold thGet at hg
  split at hg
  · cases hg
    have h2 := h1.perm (.swap _ _ _)
    unfold Res.thole
    cases hp : tpos (m.map Prod.fst) q with
    | some i =>
      obtain ⟨v, g1, g2, _⟩ := tpos_some hp
      rw [hkeys] at hp
      obtain ⟨x, x1, x2, _⟩ := tpos_some hp
      rw [g2, x2]
      exact (h2.rows_split g1 x1).perm ((List.Perm.cons _ (.swap _ _ _)))
    | none =>
      obtain ⟨g1, _⟩ := tpos_none hp
      rw [hkeys] at hp
      obtain ⟨x1, _⟩ := tpos_none hp
      rw [g1, x1]
      exact (h2.nilArr E Te).perm (List.Perm.cons _ (.swap _ _ _))
  · cases hg
/-- A row of the map is lengthened; the map has not its new header yet. -/
theorem Exec.thmap_append {u z : Value} {r ys zs : List α} {t by_ n cap c : Nat} {cs : List Value} {x y : Operand} (hS : St w0 s (.thmap P k E Te b m M :: .box c Te cs :: H) w) (hg : thGet M q = some r)
    (hT : tySlice P t = some (Te, E.sz, by_)) (hz : tyZero P Te = some z) (hzs : z.cells.size = E.sz) (hby : 0 < by_) (ho : o.op = .call { callee := .builtin .append, args := #[x, y], argTypes := #[t, t] }) (hx : ρ x = (tget m q).getD nilS) (hy : ρ y = u)
    (hu : u = .slice (some ⟨c, 0, none⟩) n cap) (hr : reps E s cs ys) (hn : n = ys.length) (ha : app by_ r ys = some zs)
    (hk : ∀ v' w', St w0 s (.thpull P k E Te b m M q v' zs :: H) w' → K v' w') : Exec P ρ o w K := by
  obtain ⟨hkeys, h1⟩ := hS.thmap_pull hg
  -- arr :: tvmap :: hole :: box :: H  ->  arr :: box :: tvmap :: hole :: H
  have h2 := h1.perm (List.Perm.cons _ (show (Res.tvmap P k b m :: Res.thole E Te (m.map Prod.fst) (m.map Prod.snd) (M.map Prod.snd) q :: Res.box c Te cs :: H).Perm (Res.box c Te cs :: Res.tvmap P k b m :: Res.thole E Te (m.map Prod.fst) (m.map Prod.snd) (M.map Prod.snd) q :: H) from ((List.Perm.cons _ (.swap _ _ _)).trans (.swap _ _ _))))
  refine Exec.append_box h2 hT hz hzs hby ho hx hy hu hr hn ha fun v' w' h3 => hk v' w' ?_
  have h4 := h3.perm (List.perm_append_comm (l₁ := [_]) |>.trans (.refl _))
  exact (show St w0 s (.arr E Te v' zs :: .star (.tvmap P k b m) (.thole E Te (m.map Prod.fst) (m.map Prod.snd) (M.map Prod.snd) q) True :: H) w' from by
    obtain ⟨bs, hn, hs, b1, b2, e, k1, c1, c2, rfl, k2, d1, d2, rfl, k3, k4⟩ := h3.own
    exact ⟨h3.os, h3.tape, h3.output, h3.drawn, h3.size, h3.stay, bs, hn, hs, b1, (c1 ++ d1) ++ d2, by rw [e, List.append_assoc], k1, c1 ++ d1, d2, rfl, ⟨trivial, c1, d1, rfl, k2, k3⟩, k4⟩).star hkeys
theorem thole_fill {w : World} {v : Value} {l : List α} (hkeys : m.map Prod.fst = M.map Prod.fst) (hS : St w0 s (.arr E Te v l :: .thole E Te (m.map Prod.fst) (m.map Prod.snd) (M.map Prod.snd) q :: H) w) :
    St w0 s (.rows E Te ((tput m q v).map Prod.snd) ((tput M q l).map Prod.snd) :: H) w := by
  unfold Res.thole at hS
  cases hp : tpos (m.map Prod.fst) q with
  | some i =>
    rw [hp] at hS
    obtain ⟨u, g1, _, g3⟩ := tpos_some hp
    rw [hkeys] at hp
    obtain ⟨x, x1, _, x3⟩ := tpos_some hp
    rw [g3, x3]
    exact hS.rows_join (List.getElem?_eq_some_iff.1 g1).1 (List.getElem?_eq_some_iff.1 x1).1
  | none =>
    rw [hp] at hS
    obtain ⟨_, g3⟩ := tpos_none hp
    rw [hkeys] at hp
    obtain ⟨_, x3⟩ := tpos_none hp
    rw [g3, x3, List.map_append, List.map_append]
    exact hS.rows_push
theorem Exec.thmap_put {x y z : Operand} {v : Value} {l : List α} {M' : List (ByteArray × List α)} (hS : St w0 s (.thpull P k E Te b m M q v l :: H) w) (hT : tyTMap P T k e) (ho : o.op = .mapUpdate T x y z) (hx : ρ x = .map (some b)) (hy : ρ y = .string q) (hz : ρ z = v)
    (hg : thPut M q l = some M') (hk : ∀ w', St w0 s (.thmap P k E Te b (tput m q v) M' :: H) w' → K undef w') : Exec P ρ o w K := by
  obtain ⟨⟨hkeys, hnd⟩, h1⟩ := St.unstar hS
  have h1c := h1.arr_one
  obtain ⟨_, h2⟩ := St.unstar (h1.perm (.swap _ _ _))
  unfold thPut at hg
  split at hg
  · rename_i hq
    obtain ⟨hq, hm⟩ := hq
    cases hg
    have hml : m.length < maxLen := by
      have := congrArg List.length hkeys
      simp only [List.length_map] at this
      omega
    refine Exec.tvmap_put h2 hT ho hx hy hz h1c hq hml fun w' h3 => hk w' ?_
    have h4 := h3.perm (show (Res.tvmap P k b (tput m q v) :: Res.thole E Te (m.map Prod.fst) (m.map Prod.snd) (M.map Prod.snd) q :: Res.arr E Te v l :: H).Perm (Res.arr E Te v l :: Res.thole E Te (m.map Prod.fst) (m.map Prod.snd) (M.map Prod.snd) q :: Res.tvmap P k b (tput m q v) :: H) from
      ((List.Perm.swap _ _ _).trans ((List.Perm.cons _ (.swap _ _ _)).trans (.swap _ _ _))))
    exact ((thole_fill hkeys h4).perm (.swap _ _ _)).star ⟨tput_keys hkeys q v l, tput_nodup hnd q v⟩
  · cases hg
end
end Go.Pw
