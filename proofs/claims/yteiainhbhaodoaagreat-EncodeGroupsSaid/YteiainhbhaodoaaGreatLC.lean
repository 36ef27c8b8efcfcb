/- -/
import Derived.Test.YteiainhbhaodoaaGreatL31
import Derived.Test.YteiainhbhaodoaaGreatL12
import Derived.Test.YteiainhbhaodoaaGreatL8
import Derived.Maps.RangeWalk
set_option linter.unusedSimpArgs false
set_option linter.unusedVariables false
namespace Go.Pw
/-! ### the pure words -/
def QeF {α : Type} : List (Int × α) → Int → Option α
 | [], _ => none
 | (k, v) :: r, s => if k = s then some v else QeF r s
def Qgs {α : Type} : List (Int × α) → Int → α → List (Int × α)
 | [], s, v => [(s, v)]
 | (k, u) :: r, s, v => if k = s then (k, v) :: r else (k, u) :: Qgs r s v
section
variable {α β : Type}
theorem QgT (m : List (Int × α)) (s : Int) (v : α) : (Qgs m s v).length = if (QeF m s).isSome then m.length else m.length + 1 := by
 induction m with
 | nil => simp [Qgs, QeF]
 | cons p r ih =>
  obtain ⟨k, u⟩ := p
  unfold Qgs QeF
  by_cases h : k = s
  ·rw [if_pos h, if_pos h]; simp
  ·rw [if_neg h, if_neg h, List.length_cons, ih]
   split <;> simp
theorem Qg8 (m : List (Int × α)) (s t : Int) (v : α) : QeF (Qgs m s v) t = if s = t then some v else QeF m t := by
 induction m with
 | nil => simp [Qgs, QeF]
 | cons p r ih =>
  obtain ⟨k, u⟩ := p
  unfold Qgs
  by_cases h : k = s
  ·rw [if_pos h]
   unfold QeF
   by_cases h2 : s = t
   ·rw [if_pos h2, if_pos (h.trans h2)]
   ·have h3 : ¬ k = t := fun e => h2 (h.symm.trans e)
    rw [if_neg h2, if_neg h3, if_neg h3]
  ·rw [if_neg h]
   unfold QeF
   rw [ih]
   by_cases h2 : k = t
   ·have h3 : ¬ s = t := fun e => h (h2.trans e.symm)
    rw [if_pos h2, if_neg h3, if_pos h2]
   ·rw [if_neg h2, if_neg h2]
end
abbrev QiC := List (Int × Value)
/-! ### two things that are owned, as one -/
section
variable {w w0 : World} {s : PHeap} {H : List Res} {A B : Res} {φ : Prop}
theorem St.conv (hS : St w0 s (A :: H) w) (h : ∀ bs, A.p s w bs → B.p s w bs) : St w0 s (B :: H) w := by
 obtain ⟨bs, hn, hs, b1, b2, e, h1, h2⟩ := hS.own
 exact ⟨hS.os, hS.tape, hS.output, hS.drawn, hS.size, hS.stay, bs, hn, hs, b1, b2, e, h b1 h1, h2⟩
end
/-! ### the map, its elements as they lie -/
abbrev DV := DataW Value
def VReads (D : DV) (m : QiC) : Prop := (∀ s : Int, Maps.has D (.int .i64 s) = (QeF m s).isSome) ∧ (∀ (s : Int) (v : Value) (z : DV), QeF m s = some v → D.atKey (.int .i64 s) z = .held v) ∧ Maps.size D = m.length
theorem VReads.put {D : DV} {m : QiC} (h : VReads D m) (ht : Maps.Tidy D) (s : Int) (v : Value) : VReads (D.put (.int .i64 s) (.held v)) (Qgs m s v) := by
 obtain ⟨h1, h2, h3⟩ := h
 refine ⟨fun t => ?_, fun t u z ht2 => ?_, ?_⟩
 ·rw [Qg8]
  by_cases e : s = t
  ·subst e
   rw [if_pos rfl, Maps.has_put_same ht.isMap (QaL _)]
   rfl
  ·rw [if_neg e, Maps.has_put_other (fun he => e (by injection he with _ he; first | exact he.symm | exact he)), h1]
 ·rw [Qg8] at ht2
  by_cases e : s = t
  ·subst e
   rw [if_pos rfl] at ht2
   cases ht2
   rw [Maps.atKey_put_same ht.isMap (QaL _)]
  ·rw [if_neg e] at ht2
   rw [Maps.atKey_put_other (fun he => e (by injection he with _ he; first | exact he.symm | exact he))]
   exact h2 t u z ht2
 ·rw [Maps.size_put ht, h1, QgT, h3]
section
variable {P : Program} {ρ : Operand → Value} {o : Oper} {w w0 : World} {s : PHeap} {H : List Res} {K : Value → World → Prop} {T k e : TypeId} {b : Nat} {m : QiC}
end
/-! ### with its rows -/
section
variable {α : Type}
variable {P : Program} {ρ : Operand → Value} {o : Oper} {w w0 : World} {s : PHeap} {H : List Res} {K : Value → World → Prop} {T k e Te : TypeId} {b : Nat} {m : QiC} {E : Enc α} {M : List (Int × List α)} {q : Int}
/-! ### given to what stays, but for the map itself -/
end
end Go.Pw
/- -/
namespace Go.Pw
/-! ### the pure words -/
open Classical in
noncomputable def QdJ {R : Type} (keys : List Int) (F : List Int → Option R) : Option R := if h : ∃ r, ∀ ord : List Int, ord.Perm keys → F ord = some r then some (Classical.choose h) else none
theorem QgG {R : Type} {keys : List Int} {F : List Int → Option R} {r : R} (h : QdJ keys F = some r) : ∀ ord : List Int, ord.Perm keys → F ord = some r := by
 unfold QdJ at h
 split at h
 ·rename_i hh
  cases h
  exact Classical.choose_spec hh
 ·cases h
theorem Qin {R : Type} {keys : List Int} {F : List Int → Option R} {r : R} (h : ∀ ord : List Int, ord.Perm keys → F ord = some r) : QdJ keys F = some r := by
 unfold QdJ
 have hh : ∃ r, ∀ ord : List Int, ord.Perm keys → F ord = some r := ⟨r, h⟩
 rw [dif_pos hh]
 have := Classical.choose_spec hh keys (.refl _)
 rw [h keys (.refl _)] at this
 exact this.symm
theorem Qc3 : ∀ {l keys : List Int}, l.Nodup → (∀ x ∈ l, x ∈ keys) → ∃ rest, (l ++ rest).Perm keys
 | [], keys, _, _ => ⟨keys, by simp⟩
 | x :: l, keys, hn, hs => by
  obtain ⟨h1, h2⟩ := List.nodup_cons.1 hn
  have hp := List.perm_cons_erase (hs x (by simp))
  obtain ⟨rest, hr⟩ := Qc3 (l := l) (keys := keys.erase x) h2 fun y hy => by
   have hne : y ≠ x := fun e => h1 (e ▸ hy)
   exact (List.mem_erase_of_ne hne).2 (hs y (by simp [hy]))
  exact ⟨rest, (List.Perm.cons x hr).trans hp.symm⟩
theorem Qjh {l keys : List Int} (hn : l.Nodup) (hk : keys.Nodup) (hs : ∀ x ∈ l, x ∈ keys) (ha : ∀ x ∈ keys, x ∈ l) : l.Perm keys := by
 obtain ⟨rest, hr⟩ := Qc3 hn hs
 have hnd := hr.nodup_iff.2 hk
 have : rest = [] := by
  cases rest with
  | nil => rfl
  | cons y rest =>
   have hy := ha y (hr.mem_iff.1 (by simp))
   have := (List.nodup_append.1 hnd).2.2 y hy y (by simp)
   exact absurd Z this
 subst this
 simpa using hr
/-! ### the loop's rule -/
section
variable {P : Program} {N : Nat} {Q : Qaz} {f : Fr} {w : World}
end
/-! ### a map that is being ranged over -/
section
variable {α : Type}
variable {P : Program} {ρ : Operand → Value} {o : Oper} {w w0 : World} {s : PHeap} {H : List Res} {K : Value → World → Prop} {T k e Te : TypeId} {b r : Nat} {m : QiC} {E : Enc α} {M : List (Int × List α)} {done : List Int}
theorem Exec.entry {it : Operand} {v : Value} (ho : o.op = .entry it) (hit : ρ it = .pointer (some ⟨r, 0, none⟩)) (hen : (Instr.entry (.pointer (some ⟨r, 0, none⟩))).run P w = .ok v w) (hk : K v w) : Exec P ρ o w K := by
 refine .of_run (v := v) (w' := w) ?_ hk
 unfold execOp
 simp [ho, hit, hen, Result.andThen]
end
end Go.Pw
/- -/
namespace Go.Pw
/-! ### the pure words -/
def Qbl {S R : Type} (B : Int → S → Option (Ctl S R)) : List Int → S → Option (Ctl S R)
 | [], s => some (.next s)
 | x :: xs, s => match B x s with
  | some (.next s') => Qbl B xs s'
  | r => r
open Classical in
noncomputable def QcY {R : Type} (keys : List Int) (F : List Int → Option R) : Option R := if keys.Nodup then QdJ keys F else none
theorem QgH {R : Type} {keys : List Int} {F : List Int → Option R} {r : R} (h : QcY keys F = some r) : keys.Nodup ∧ QdJ keys F = some r := by
 unfold QcY at h
 split at h
 ·rename_i hn; exact ⟨hn, h⟩
 ·cases h
theorem Qc2 {R : Type} {keys : List Int} {F : List Int → Option R} {r : R} (hn : keys.Nodup) (h : ∀ ord : List Int, ord.Perm keys → F ord = some r) : QcY keys F = some r := by
 unfold QcY
 rw [if_pos hn]
 exact Qin h
/-! ### the loop's rule -/
section
variable {P : Program} {N : Nat} {Q : Qaz} {f : Fr} {w : World}
theorem Qg9 {S R β : Type} {B : Int → S → Option (Ctl S R)} {keys : List Int} {s0 : S} {kr : R → Option β} {K : S → Option β} {r : β} {c : Code} (I : List Int → S → Fr → World → Prop) (hB : QcY keys (fun ord => ctl (Qbl B ord s0) kr K) = some r) (h0 : I [] s0 f w)
  (hround : ∀ done s f w, I done s f w → ((∀ x ∈ keys, x ∈ done) → K s = some r) → (∀ x, x ∈ keys → x ∉ done → ∃ c, B x s = some c ∧ ∀ q, c = .ret q → kr q = some r) →
   W P N c (andThen (fun f' w' => ∃ x s', x ∈ keys ∧ x ∉ done ∧ B x s = some (.next s') ∧ I (done ++ [x]) s' f' w') Q) f w) : W P N (.loop c) Q f w := by
 obtain ⟨hkn, hB⟩ := QgH hB
 have hall := QgG hB
 refine QfS (fun k f w => ∃ done s, k = keys.length - done.length ∧ done.Nodup ∧ (∀ x ∈ done, x ∈ keys) ∧ (∀ rest, (done ++ rest).Perm keys → ctl (Qbl B rest s) kr K = some r) ∧ I done s f w)
  ⟨_, [], s0, rfl, List.nodup_nil, by simp, fun rest hr => hall rest (by simpa using hr), h0⟩ ?_
 rintro k f w ⟨done, s, rfl, hn, hs, hrest, hI⟩
 have hend : (∀ x ∈ keys, x ∈ done) → K s = some r := fun ha => by
  have := hrest [] (by simpa using Qjh hn hkn hs ha)
  simpa [Qbl, ctl] using this
 have hnext : ∀ x, x ∈ keys → x ∉ done → (done ++ [x]).Nodup ∧ (∀ y ∈ done ++ [x], y ∈ keys) := fun x hx hxn =>
  ⟨List.nodup_append.2 ⟨hn, by simp, fun a ha b hb => by simp only [List.mem_singleton] at hb; subst hb; exact fun e => hxn (e ▸ ha)⟩, fun y hy => by
   rcases List.mem_append.1 hy with hy | hy
   ·exact hs y hy
   ·simp only [List.mem_singleton] at hy; subst hy; exact hx⟩
 have hstep : ∀ x, x ∈ keys → x ∉ done → ∃ c, B x s = some c ∧ ∀ q, c = .ret q → kr q = some r := fun x hx hxn => by
  obtain ⟨h1, h2⟩ := hnext x hx hxn
  obtain ⟨rest, hr⟩ := Qc3 h1 h2
  rw [List.append_assoc] at hr
  have := hrest ([x] ++ rest) hr
  simp only [List.singleton_append, Qbl] at this
  cases hb : B x s with
  | none => rw [hb] at this; cases this
  | some c =>
   refine ⟨c, Z, ?_⟩
   rintro q rfl
   rw [hb] at this
   exact this
 intro a ha
 refine wp_mono (hround done s f w hI hend hstep a ha) ?_
 rintro e a' w' ⟨g, hg, hQ⟩
 refine ⟨g, hg, ?_⟩
 cases e with
 | normal =>
  obtain ⟨x, s', hx, hxn, hb, hI'⟩ := hQ
  obtain ⟨h1, h2⟩ := hnext x hx hxn
  obtain ⟨rest, hr⟩ := Qc3 h1 h2
  have hlen := hr.length_eq
  simp only [List.length_append, List.length_cons, List.length_nil] at hlen
  refine ⟨keys.length - (done ++ [x]).length, by simp only [List.length_append, List.length_cons, List.length_nil]; omega, done ++ [x], s', Z, h1, h2, fun rest' hr' => ?_, hI'⟩
  rw [List.append_assoc] at hr'
  have := hrest ([x] ++ rest') hr'
  simp only [List.singleton_append, Qbl, hb] at this
  exact this
 | _ => exact hQ
end
/-! ### a map that is being ranged over -/
def Res.brange (P : Program) (k e : TypeId) (b r : Nat) (m : Q0) (done : List Int) : Res where
 p := fun _ w bs => bs = [b, r] ∧ ∃ (D : DM) (left : Lit → Bool) (cnt : Nat), w.ranges P k (plainElem P e) b r m.length D left cnt ∧ BReads D m ∧ ∀ x : Int, left (.int .i64 x) = ((Ki m x).isSome && !done.contains x)
 loc := by
  rintro s w w' bs ⟨rfl, D, left, cnt, ⟨es, clock, since, seen, c0, hb, F, hs, hD, hr, rest⟩, h2⟩ hw
  exact ⟨Z, D, left, cnt, ⟨es, clock, since, seen, c0, by rw [hw b (by simp)]; exact hb, F, hs, hD, by rw [hw r (by simp)]; exact hr, rest⟩, h2⟩
 mono := fun _ h => h
 lt := by
  rintro s w bs ⟨rfl, D, left, cnt, h1, _⟩ b' hb
  simp at hb
  rcases hb with rfl | rfl
  ·exact h1.owns.lt
  ·exact h1.lt
theorem Qfc {m : Q0} {x : Int} : (Ki m x).isSome = true ↔ x ∈ m.map Prod.fst := by
 induction m with
 | nil => simp [Ki]
 | cons p r ih =>
  obtain ⟨k, v⟩ := p
  unfold Ki
  by_cases h : k = x
  ·rw [if_pos h]; simp [h]
  ·rw [if_neg h, ih]
   simp only [List.map_cons, List.mem_cons]
   exact ⟨.inr, fun h' => h'.elim (fun e => absurd e.symm h) id⟩
section
variable {P : Program} {ρ : Operand → Value} {o : Oper} {w w0 : World} {s : PHeap} {H : List Res} {K : Value → World → Prop} {T k e : TypeId} {b r : Nat} {m : Q0} {done : List Int}
theorem Qcc {x : Operand} (hS : St w0 s (.bmap P k e b m :: H) w) (hT : QdI P T k e) (ho : o.op = .range T x) (hx : ρ x = .map (some b)) (hk : ∀ r w', St w0 s (.brange P k e b r m [] :: H) w' → K (.pointer (some ⟨r, 0, none⟩)) w') : Exec P ρ o w K := by
 obtain ⟨D, h1, h2⟩ := hS.bmap_get
 obtain ⟨t1, t2, t3⟩ := hT
 have K' : Maps.Keyed P k := Maps.int_keyed t2
 obtain ⟨w', hrun, hrg, hgr, hsz⟩ := h1.range K' t1
 have hdr : w.drawn ≤ w'.drawn := by
  obtain ⟨es, clock, hb, _⟩ := id h1
  have h3 := run_range_map w T k e b es clock t1 hb
  rw [hrun] at h3
  simp only [Result.ok.injEq] at h3
  rw [h3.2]
  exact Nat.le_refl _
 have hlt := h1.lt
 refine .of_run (v := .pointer (some ⟨w.heap.size, 0, none⟩)) (w' := w') ?_ (hk _ _ ?_)
 ·unfold execOp
  simp [ho, hx, hrun, Result.andThen]
 ·refine hS.turn hgr.os hgr.tape hgr.output hdr hgr.size ?_
  rintro b1 ⟨rfl, _⟩
  refine ⟨[b, w.heap.size], ⟨Z, D, _, _, hrg, h2, fun x => by rw [h2.1]; simp⟩, ?_, ?_, ?_⟩
  ·simp only [List.nodup_cons, List.mem_singleton, List.not_mem_nil, not_false_eq_true, List.nodup_nil, and_true]
   omega
  ·intro b' hb'
   simp only [List.mem_cons, List.not_mem_nil, or_false] at hb'
   rcases hb' with rfl | rfl
   ·exact .inl (by simp)
   ·exact .inr (Nat.le_refl _)
  ·intro b' hlt' hne
   exact hgr.block b' hlt' (by simp)
theorem St.brange_stop (h1 : St w0 s (.brange P k e b r m done :: H) w) : St w0 s (.bmap P k e b m :: H) w := by
 obtain ⟨bs, hn, hs, b1, b2, e0, ⟨rfl, D, left, cnt, g1, g2, _⟩, g3⟩ := h1.own
 subst e0
 refine ⟨h1.os, h1.tape, h1.output, h1.drawn, h1.size, h1.stay, [b] ++ b2, ?_, fun b' hb' => hs b' ?_, [b], b2, Z, ⟨Z, D, g1.owns, g2⟩, g3⟩
 ·exact hn.sublist (by simp)
 ·simp only [List.mem_append, List.mem_cons, List.not_mem_nil, or_false] at hb' ⊢
  rcases hb' with h | h
  ·exact .inl (.inl h)
  ·exact .inr h
theorem QbM {it : Operand} (hS : St w0 s (.brange P k e b r m done :: H) w) (hT : QdI P T k e) (ho : o.op = .next it false) (hit : ρ it = .pointer (some ⟨r, 0, none⟩))
  (hd : (∀ x ∈ m.map Prod.fst, x ∈ done) → St w0 s (.bmap P k e b m :: H) w → K (.tuple #[.bool false]) w)
  (hk : ∀ x v w', x ∈ m.map Prod.fst → x ∉ done → St w0 s (.brange P k e b r m (done ++ [x]) :: H) w' → (Instr.entry (.pointer (some ⟨r, 0, none⟩))).run P w' = .ok (.tuple #[.int .i64 x, v]) w' → K (.tuple #[.bool true, .int .i64 x, v]) w') : Exec P ρ o w K := by
 obtain ⟨bs, hn, hs, b1, b2, e0, ⟨rfl, D, left, cnt, h1, h2, hleft⟩, h3⟩ := hS.own
 obtain ⟨t1, t2, t3⟩ := hT
 have K' : Maps.Keyed P k := Maps.int_keyed t2
 rcases h1.next K' o.type with ⟨hc, hl, hrun⟩ | ⟨key, v, kl, y, w', cnt', hkey, hlk, hv, hat, hrun, hrg, hlt, hgr, hsz, hen⟩
 ·refine .of_run (v := .tuple #[.bool false]) (w' := w) ?_ (hd (fun x hx => ?_) hS.brange_stop)
  ·unfold execOp
   simp [ho, hit, hrun, Result.andThen]
  ·have h4 := hleft x
   rw [hl, Qfc.2 hx] at h4
   simpa using h4
 ·obtain ⟨x, rfl, rfl, hw⟩ := Maps.keyOf_int_inv t2 hkey
  rw [hleft] at hlk
  simp only [Bool.and_eq_true, Bool.not_eq_true', List.contains_eq_mem, decide_eq_false_iff_not] at hlk
  have hdr : w.drawn ≤ w'.drawn := by
   obtain ⟨es, clock, since, seen, c0, hb, F, hs', hD, hr, hold, hcn, hl1, hl2, hsc, hsk⟩ := id h1
   rcases run_next_at (P := P) w o.type r b since c0 seen es clock hr hb hold hsc with ⟨_, hrun'⟩ | ⟨en, _, w1, hal, hrun'⟩
   ·rw [hrun] at hrun'
    simp at hrun'
   ·rw [hrun] at hrun'
    simp only [Result.ok.injEq] at hrun'
    rw [hrun'.2]
    rcases hal with rfl | rfl
    ·exact Nat.le_refl _
    ·exact Nat.le_succ _
  refine .of_run (v := .tuple #[.bool true, .int .i64 x, v]) (w' := w') ?_ (hk x v w' (Qfc.1 hlk.1) hlk.2 ?_ hen)
  ·unfold execOp
   simp [ho, hit, hrun, Result.andThen]
  ·refine hS.turn hgr.os hgr.tape hgr.output hdr hgr.size ?_
   rintro b1 ⟨rfl, _⟩
   refine ⟨[b, r], ⟨Z, D, _, _, hrg, h2, fun z => ?_⟩, ?_, fun b' hb' => .inl hb', fun b' hlt' hne => hgr.block b' hlt' (by simp at hne; simp; exact hne.2)⟩
   ·rw [hleft]
    by_cases e1 : z = x
    ·subst e1
     simp [Lit.sameKey]
    ·simp [Lit.sameKey, e1]
   ·simp only [List.nodup_cons, List.mem_singleton, List.not_mem_nil, not_false_eq_true, List.nodup_nil, and_true]
    exact fun e => h1.ne e.symm
end
end Go.Pw
/- -/
namespace Go.Pw
def QfO (m : Q0) (s : Int) : Q0 := m.filter fun p => !decide (p.1 = s)
def QeB (m : Q0) (s : Int) : Option Q0 := if KY s ∧ (m.map Prod.fst).Nodup then some (QfO m s) else none
theorem Qc6 (k : Int) (v : Bool) (r : Q0) (t : Int) : Ki ((k, v) :: r) t = if k = t then some v else Ki r t := rfl
theorem Qfd : ∀ (m : Q0) (s t : Int), Ki (QfO m s) t = if s = t then none else Ki m t
 | [], s, t => by simp [QfO, Ki]
 | (k, v) :: r, s, t => by
  have ih := Qfd r s t
  unfold QfO at ih ⊢
  rw [List.filter_cons]
  by_cases h : k = s
  ·subst h
   simp only [decide_true, Bool.not_true, Bool.false_eq_true, if_false]
   rw [ih, Qc6]
   by_cases e : k = t
   ·rw [if_pos e, if_pos e]
   ·rw [if_neg e, if_neg e, if_neg e]
  ·simp only [h, decide_false, Bool.not_false, if_true]
   rw [Qc6, Qc6, ih]
   by_cases e : k = t
   ·subst e
    rw [if_pos rfl, if_neg (fun e => h e.symm), if_pos rfl]
   ·rw [if_neg e, if_neg e]
theorem Qg6 : ∀ (m : Q0) (s : Int), (m.map Prod.fst).Nodup → (QfO m s).length + (if (Ki m s).isSome then 1 else 0) = m.length
 | [], s, _ => by simp [QfO, Ki]
 | (k, v) :: r, s, hn => by
  simp only [List.map_cons, List.nodup_cons] at hn
  have ih := Qg6 r s hn.2
  unfold QfO at ih ⊢
  rw [List.filter_cons, Qc6]
  by_cases h : k = s
  ·subst h
   have hb : (Ki r k).isSome = false := by
    cases e : (Ki r k).isSome
    ·rfl
    ·exact absurd (Qfc.1 e) hn.1
   rw [hb] at ih
   simp only [Bool.false_eq_true, if_false, Nat.add_zero] at ih
   simp only [decide_true, Bool.not_true, Bool.false_eq_true, if_false, if_true, Option.isSome_some, List.length_cons]
   omega
  ·simp only [h, decide_false, Bool.not_false, if_true, if_false, List.length_cons]
   omega
theorem BReads.del {D : DM} {m : Q0} (h : BReads D m) (ht : Maps.Tidy D) (hn : (m.map Prod.fst).Nodup) (s : Int) : BReads (D.del (.int .i64 s)) (QfO m s) := by
 obtain ⟨h1, h2, h3⟩ := h
 refine ⟨fun t => ?_, fun t u z ht2 => ?_, ?_⟩
 ·rw [Qfd]
  by_cases e : s = t
  ·subst e
   rw [if_pos rfl, Maps.has_del_same]
   rfl
  ·rw [if_neg e, Maps.has_del_other (fun he => e (by injection he with _ he; first | exact he.symm | exact he)), h1]
 ·rw [Qfd] at ht2
  by_cases e : s = t
  ·rw [if_pos e] at ht2; cases ht2
  ·rw [if_neg e] at ht2
   rw [Maps.atKey_del_other (fun he => e (by injection he with _ he; first | exact he.symm | exact he))]
   exact h2 t u z ht2
 ·have a := Maps.size_del (k := .int .i64 s) ht
  rw [h1, h3] at a
  have b := Qg6 m s hn
  omega
section
variable {P : Program} {ρ : Operand → Value} {o : Oper} {w w0 : World} {s : PHeap} {H : List Res} {K : Value → World → Prop} {T k e : TypeId} {b : Nat} {m : Q0}
theorem Qf5 {x y : Operand} {q : Int} {m' : Q0} (hS : St w0 s (.bmap P k e b m :: H) w) (hT : QdI P T k e) (ho : o.op = .call { callee := .builtin .delete, args := #[x, y], argTypes := #[T, k] }) (hx : ρ x = .map (some b)) (hy : ρ y = .int .i64 q)
  (hg : QeB m q = some m') (hk : ∀ w', St w0 s (.bmap P k e b m' :: H) w' → K (.tuple #[]) w') : Exec P ρ o w K := by
 obtain ⟨D, h1, h2⟩ := hS.bmap_get
 obtain ⟨t1, t2, t3⟩ := hT
 unfold QeB at hg
 split at hg
 ·rename_i hq
  obtain ⟨hq, hm⟩ := hq
  cases hg
  have K' : Maps.Keyed P k := Maps.int_keyed t2
  have hkey := Maps.keyOf_int_mk t2 (QeV hq)
  obtain ⟨w', hrun, h3, hT'⟩ := h1.drop K' t1 hkey o.type
  have h4 := hT'.grown
  have hdr : w.drawn = w'.drawn := by obtain ⟨es, c, es', c', _, rfl⟩ := hT'; rfl
  have h5 := h2.del (h1.tidy K') hm q
  refine .of_run (v := .tuple #[]) (w' := w') ?_ (hk _ ?_)
  ·unfold execOp
   simp [ho, resolve, invoke, builtin, hx, hy, hrun, Result.andThen]
  ·refine hS.turn h4.os h4.tape h4.output (Nat.le_of_eq hdr) h4.size ?_
   intro b1 hb1
   obtain ⟨hb1, _⟩ := hb1
   subst hb1
   refine ⟨[b], ⟨Z, _, ?_, h5⟩, by simp, fun b' hb => .inl hb, fun b' hlt hne => h4.block b' hlt (by simp at hne; simpa using hne)⟩
   have := QcN h3
   rw [h5.2.2] at this
   exact this
 ·cases hg
end
end Go.Pw
