/-
  My walk's base, part 43: a loop over the keys of a map of ints to truth values, which rounds may leave by a return.
-/
import Derived.Test.YtcabhickgjhkhaaGreatDoorLD
import Derived.Test.YtcabhickgjhkhaaGreatDoorLC
set_option linter.unusedSimpArgs false
set_option linter.unusedVariables false
namespace Go.Pw
/-! ### the pure words -/
def foldC {S R : Type} (B : Int → S → Option (Ctl S R)) : List Int → S → Option (Ctl S R)
  | [], s => some (.next s)
  | x :: xs, s => match B x s with
    | some (.next s') => foldC B xs s'
    | r => r
open Classical in
noncomputable def rangeC {R : Type} (keys : List Int) (F : List Int → Option R) : Option R := if keys.Nodup then rangeK keys F else none
theorem rangeC_some {R : Type} {keys : List Int} {F : List Int → Option R} {r : R} (h : rangeC keys F = some r) : keys.Nodup ∧ rangeK keys F = some r := by
  unfold rangeC at h
  split at h
  · rename_i hn; exact ⟨hn, h⟩
  · cases h
theorem rangeC_eq {R : Type} {keys : List Int} {F : List Int → Option R} {r : R} (hn : keys.Nodup) (h : ∀ ord : List Int, ord.Perm keys → F ord = some r) : rangeC keys F = some r := by
  unfold rangeC
  rw [if_pos hn]
  exact rangeK_eq h
/-! ### the loop's rule -/
section
variable {P : Program} {N : Nat} {Q : Post} {f : Fr} {w : World}
theorem W_rangeC {S R β : Type} {B : Int → S → Option (Ctl S R)} {keys : List Int} {s0 : S} {kr : R → Option β} {K : S → Option β} {r : β} {c : Code} (I : List Int → S → Fr → World → Prop) (hB : rangeC keys (fun ord => ctl (foldC B ord s0) kr K) = some r) (h0 : I [] s0 f w)
    (hround : ∀ done s f w, I done s f w → ((∀ x ∈ keys, x ∈ done) → K s = some r) → (∀ x, x ∈ keys → x ∉ done → ∃ c, B x s = some c ∧ ∀ q, c = .ret q → kr q = some r) →
      W P N c (andThen (fun f' w' => ∃ x s', x ∈ keys ∧ x ∉ done ∧ B x s = some (.next s') ∧ I (done ++ [x]) s' f' w') Q) f w) : W P N (.loop c) Q f w := by
  obtain ⟨hkn, hB⟩ := rangeC_some hB
  have hall := rangeK_some hB
  refine W_loop (fun k f w => ∃ done s, k = keys.length - done.length ∧ done.Nodup ∧ (∀ x ∈ done, x ∈ keys) ∧ (∀ rest, (done ++ rest).Perm keys → ctl (foldC B rest s) kr K = some r) ∧ I done s f w)
    ⟨_, [], s0, rfl, List.nodup_nil, by simp, fun rest hr => hall rest (by simpa using hr), h0⟩ ?_
  rintro k f w ⟨done, s, rfl, hn, hs, hrest, hI⟩
  have hend : (∀ x ∈ keys, x ∈ done) → K s = some r := fun ha => by
    have := hrest [] (by simpa using perm_all hn hkn hs ha)
    simpa [foldC, ctl] using this
  have hnext : ∀ x, x ∈ keys → x ∉ done → (done ++ [x]).Nodup ∧ (∀ y ∈ done ++ [x], y ∈ keys) := fun x hx hxn =>
    ⟨List.nodup_append.2 ⟨hn, by simp, fun a ha b hb => by simp only [List.mem_singleton] at hb; subst hb; exact fun e => hxn (e ▸ ha)⟩, fun y hy => by
      rcases List.mem_append.1 hy with hy | hy
      · exact hs y hy
      · simp only [List.mem_singleton] at hy; subst hy; exact hx⟩
  have hstep : ∀ x, x ∈ keys → x ∉ done → ∃ c, B x s = some c ∧ ∀ q, c = .ret q → kr q = some r := fun x hx hxn => by
    obtain ⟨h1, h2⟩ := hnext x hx hxn
    obtain ⟨rest, hr⟩ := perm_rest h1 h2
    rw [List.append_assoc] at hr
    have := hrest ([x] ++ rest) hr
    simp only [List.singleton_append, foldC] at this
    cases hb : B x s with
    | none => rw [hb] at this; cases this
    | some c =>
      refine ⟨c, rfl, ?_⟩
      rintro q rfl
      rw [hb] at this
      exact this
  intro a ha
  refine wp_mono (hround done s f w hI hend hstep a ha) ?_
  rintro e a' w' ⟨g, hg, hQ⟩
  refine ⟨g, hg, ?_⟩
  cases e with
  | normal =>
    obtain ⟨x, s', hx, hxn, hb, hI'⟩ := hQ
    obtain ⟨h1, h2⟩ := hnext x hx hxn
    obtain ⟨rest, hr⟩ := perm_rest h1 h2
    have hlen := hr.length_eq
    simp only [List.length_append, List.length_cons, List.length_nil] at hlen
    refine ⟨keys.length - (done ++ [x]).length, by simp only [List.length_append, List.length_cons, List.length_nil]; omega, done ++ [x], s', rfl, h1, h2, fun rest' hr' => ?_, hI'⟩
    rw [List.append_assoc] at hr'
    have := hrest ([x] ++ rest') hr'
    simp only [List.singleton_append, foldC, hb] at this
    exact this
  | _ => exact hQ
end
/-! ### a map that is being ranged over -/
def Res.brange (P : Program) (k e : TypeId) (b r : Nat) (m : BMap) (done : List Int) : Res where
  p := fun _ w bs => bs = [b, r] ∧ ∃ (D : DM) (left : Lit → Bool) (cnt : Nat), w.ranges P k (plainElem P e) b r m.length D left cnt ∧ BReads D m ∧ ∀ x : Int, left (.int .i64 x) = ((bget m x).isSome && !done.contains x)
  loc := by
    rintro s w w' bs ⟨rfl, D, left, cnt, ⟨es, clock, since, seen, c0, hb, F, hs, hD, hr, rest⟩, h2⟩ hw
    exact ⟨rfl, D, left, cnt, ⟨es, clock, since, seen, c0, by rw [hw b (by simp)]; exact hb, F, hs, hD, by rw [hw r (by simp)]; exact hr, rest⟩, h2⟩
  mono := fun _ h => h
  lt := by
    rintro s w bs ⟨rfl, D, left, cnt, h1, _⟩ b' hb
    simp at hb
    rcases hb with rfl | rfl
    · exact h1.owns.lt
    · exact h1.lt
theorem bget_key {m : BMap} {x : Int} : (bget m x).isSome = true ↔ x ∈ m.map Prod.fst := by
  induction m with
  | nil => simp [bget]
  | cons p r ih =>
    obtain ⟨k, v⟩ := p
    unfold bget
    by_cases h : k = x
    · rw [if_pos h]; simp [h]
    · rw [if_neg h, ih]
      simp only [List.map_cons, List.mem_cons]
      exact ⟨.inr, fun h' => h'.elim (fun e => absurd e.symm h) id⟩
section
variable {P : Program} {ρ : Operand → Value} {o : Oper} {w w0 : World} {s : PHeap} {H : List Res} {K : Value → World → Prop} {T k e : TypeId} {b r : Nat} {m : BMap} {done : List Int}
theorem Exec.bmap_range {x : Operand} (hS : St w0 s (.bmap P k e b m :: H) w) (hT : tyBMap P T k e) (ho : o.op = .range T x) (hx : ρ x = .map (some b)) (hk : ∀ r w', St w0 s (.brange P k e b r m [] :: H) w' → K (.pointer (some ⟨r, 0, none⟩)) w') : Exec P ρ o w K := by
  obtain ⟨D, h1, h2⟩ := hS.bmap_get
  obtain ⟨t1, t2, t3⟩ := hT
  have K' : Maps.Keyed P k := Maps.int_keyed t2
  obtain ⟨w', hrun, hrg, hgr, hsz⟩ := h1.range K' t1
  have hdr : w.drawn ≤ w'.drawn := by
    obtain ⟨es, clock, hb, _⟩ := id h1
    have h3 := run_range_map w T k e b es clock t1 hb
    rw [hrun] at h3
    simp only [Result.ok.injEq] at h3
    rw [h3.2]
    exact Nat.le_refl _
  have hlt := h1.lt
  refine .of_run (v := .pointer (some ⟨w.heap.size, 0, none⟩)) (w' := w') ?_ (hk _ _ ?_)
  · unfold execOp
    simp [ho, hx, hrun, Result.andThen]
  · refine hS.turn hgr.os hgr.tape hgr.output hdr hgr.size ?_
    rintro b1 ⟨rfl, _⟩
    refine ⟨[b, w.heap.size], ⟨rfl, D, _, _, hrg, h2, fun x => by rw [h2.1]; simp⟩, ?_, ?_, ?_⟩
    · simp only [List.nodup_cons, List.mem_singleton, List.not_mem_nil, not_false_eq_true, List.nodup_nil, and_true]
      omega
    · intro b' hb'
      simp only [List.mem_cons, List.not_mem_nil, or_false] at hb'
      rcases hb' with rfl | rfl
      · exact .inl (by simp)
      · exact .inr (Nat.le_refl _)
    · intro b' hlt' hne
      exact hgr.block b' hlt' (by simp)
theorem St.brange_stop (h1 : St w0 s (.brange P k e b r m done :: H) w) : St w0 s (.bmap P k e b m :: H) w := by
  obtain ⟨bs, hn, hs, b1, b2, e0, ⟨rfl, D, left, cnt, g1, g2, _⟩, g3⟩ := h1.own
  subst e0
  refine ⟨h1.os, h1.tape, h1.output, h1.drawn, h1.size, h1.stay, [b] ++ b2, ?_, fun b' hb' => hs b' ?_, [b], b2, rfl, ⟨rfl, D, g1.owns, g2⟩, g3⟩
  · exact hn.sublist (by simp)
  · simp only [List.mem_append, List.mem_cons, List.not_mem_nil, or_false] at hb' ⊢
    rcases hb' with h | h
    · exact .inl (.inl h)
    · exact .inr h
theorem Exec.brange_next {it : Operand} (hS : St w0 s (.brange P k e b r m done :: H) w) (hT : tyBMap P T k e) (ho : o.op = .next it false) (hit : ρ it = .pointer (some ⟨r, 0, none⟩))
    (hd : (∀ x ∈ m.map Prod.fst, x ∈ done) → St w0 s (.bmap P k e b m :: H) w → K (.tuple #[.bool false]) w)
    (hk : ∀ x v w', x ∈ m.map Prod.fst → x ∉ done → St w0 s (.brange P k e b r m (done ++ [x]) :: H) w' → (Instr.entry (.pointer (some ⟨r, 0, none⟩))).run P w' = .ok (.tuple #[.int .i64 x, v]) w' → K (.tuple #[.bool true, .int .i64 x, v]) w') : Exec P ρ o w K := by
  obtain ⟨bs, hn, hs, b1, b2, e0, ⟨rfl, D, left, cnt, h1, h2, hleft⟩, h3⟩ := hS.own
  obtain ⟨t1, t2, t3⟩ := hT
  have K' : Maps.Keyed P k := Maps.int_keyed t2
  rcases h1.next K' o.type with ⟨hc, hl, hrun⟩ | ⟨key, v, kl, y, w', cnt', hkey, hlk, hv, hat, hrun, hrg, hlt, hgr, hsz, hen⟩
  · refine .of_run (v := .tuple #[.bool false]) (w' := w) ?_ (hd (fun x hx => ?_) hS.brange_stop)
    · unfold execOp
      simp [ho, hit, hrun, Result.andThen]
    · have h4 := hleft x
      rw [hl, bget_key.2 hx] at h4
      simpa using h4
  · obtain ⟨x, rfl, rfl, hw⟩ := Maps.keyOf_int_inv t2 hkey
    rw [hleft] at hlk
    simp only [Bool.and_eq_true, Bool.not_eq_true', List.contains_eq_mem, decide_eq_false_iff_not] at hlk
    have hdr : w.drawn ≤ w'.drawn := by
      obtain ⟨es, clock, since, seen, c0, hb, F, hs', hD, hr, hold, hcn, hl1, hl2, hsc, hsk⟩ := id h1
      rcases run_next_at (P := P) w o.type r b since c0 seen es clock hr hb hold hsc with ⟨_, hrun'⟩ | ⟨en, _, w1, hal, hrun'⟩
      · rw [hrun] at hrun'
        simp at hrun'
      · rw [hrun] at hrun'
        simp only [Result.ok.injEq] at hrun'
        rw [hrun'.2]
        rcases hal with rfl | rfl
        · exact Nat.le_refl _
        · exact Nat.le_succ _
    refine .of_run (v := .tuple #[.bool true, .int .i64 x, v]) (w' := w') ?_ (hk x v w' (bget_key.1 hlk.1) hlk.2 ?_ hen)
    · unfold execOp
      simp [ho, hit, hrun, Result.andThen]
    · refine hS.turn hgr.os hgr.tape hgr.output hdr hgr.size ?_
      rintro b1 ⟨rfl, _⟩
      refine ⟨[b, r], ⟨rfl, D, _, _, hrg, h2, fun z => ?_⟩, ?_, fun b' hb' => .inl hb', fun b' hlt' hne => hgr.block b' hlt' (by simp at hne; simp; exact hne.2)⟩
      · rw [hleft]
        by_cases e1 : z = x
        · subst e1
          simp [Lit.sameKey]
        · simp [Lit.sameKey, e1]
      · simp only [List.nodup_cons, List.mem_singleton, List.not_mem_nil, not_false_eq_true, List.nodup_nil, and_true]
        exact fun e => h1.ne e.symm
end
end Go.Pw
/-
  My walk's base, part 44: a key is taken out of a map of ints to truth values.
-/
namespace Go.Pw
section
variable {P : Program} {ρ : Operand → Value} {o : Oper} {w w0 : World} {s : PHeap} {H : List Res} {K : Value → World → Prop} {T k e : TypeId} {b : Nat} {m : BMap}
end
end Go.Pw
/-
  My walk's base, part 46: a map of strings whose keys are never met again: what its elements are is left open.
-/
namespace Go.Pw
def khas (m : List ByteArray) (q : ByteArray) : Bool := m.any fun s => s.data.toList == q.data.toList
def KReads (D : DV) (m : List ByteArray) : Prop := (∀ s : ByteArray, Maps.has D (skey s) = khas m s) ∧ Maps.size D = m.length
theorem KReads.put {D : DV} {m : List ByteArray} (h : KReads D m) (ht : Maps.Tidy D) (s : ByteArray) (v : Value) (hf : khas m s = false) : KReads (D.put (skey s) (.held v)) (s :: m) := by
  obtain ⟨h1, h3⟩ := h
  refine ⟨fun t => ?_, ?_⟩
  · unfold khas
    rw [List.any_cons]
    by_cases e : s.data.toList = t.data.toList
    · have : skey t = skey s := by rw [skey, skey, e]
      rw [this, Maps.has_put_same ht.isMap (isKeyLit_str _)]
      simp [e]
    · rw [Maps.has_put_other (fun he => e (by injection he with he; exact he.symm)), h1]
      have e2 : (s.data.toList == t.data.toList) = false := by simpa using e
      rw [e2]
      rfl
  · rw [Maps.size_put ht, h1, hf, h3]
    simp
section
variable {P : Program} {ρ : Operand → Value} {o : Oper} {w w0 : World} {s : PHeap} {H : List Res} {K : Value → World → Prop} {T k e : TypeId} {b : Nat} {m : List ByteArray}
end
end Go.Pw
