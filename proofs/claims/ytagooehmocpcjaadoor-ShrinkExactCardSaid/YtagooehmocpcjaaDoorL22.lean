/-
  My walk's base, part 23: a table that stays; a row of strings.Builders that the call owns.
-/
import Derived.Test.YtagooehmocpcjaaDoorLB
import Derived.Test.YtagooehmocpcjaaDoorL7
import Derived.Shelf.Strconv.Itoa3
set_option linter.unusedSimpArgs false
namespace Go.Pw
open Go.Proofs

/-! ### the table of powers of ten -/
/-- The library's table lies in what stays. -/
def TabS (P : Program) (s : PHeap) : Prop := ∃ g T fz, P.globalNamed "internal/strconv.uint64pow10" = some g ∧ s g = some (.cells (Lib.pow10Tab.map fun z => Value.int .u64 z).toArray T fz)
theorem TabS.mono {P : Program} {s t : PHeap} (h : TabS P s) (l : PHeap.le s t) : TabS P t := let ⟨g, T, fz, h1, h2⟩ := h; ⟨g, T, fz, h1, l _ _ h2⟩
theorem TabS.here {P : Program} {s : PHeap} {w0 w : World} {H : List Res} (h : TabS P s) (hS : St w0 s H w) : Lib.TabIs P w "internal/strconv.uint64pow10" .u64 Lib.pow10Tab := by
  obtain ⟨g, T, fz, h1, h2⟩ := h
  simp [Lib.TabIs, World.var?, h1, hS.stay g _ h2]
theorem TabS.start {P : Program} {W : World} (h : Lib.TabIs P W "internal/strconv.uint64pow10" .u64 Lib.pow10Tab) : TabS P (σH W) := by
  unfold Lib.TabIs World.var? at h
  obtain ⟨g, h1, h2⟩ := Option.bind_eq_some_iff.1 h
  split at h2
  · rename_i cs T fz he
    cases h2
    exact ⟨g, T, fz, h1, he⟩
  · cases h2
section
variable {P : Program} {ρ : Operand → Value} {o : Oper} {w w0 : World} {s : PHeap} {H : List Res} {K : Value → World → Prop} {T e : TypeId}
/-- New blocks behind the heap, and draws. -/
theorem St.grown (hS : St w0 s H w) (k : Nat) (os : Array Obj) : St w0 s H (Sort.grow (w.drewN k) os) := by
  have hb : ∀ b, b < w.heap.size → (Sort.grow (w.drewN k) os).heap[b]? = w.heap[b]? := fun b hb => by
    rw [Sort.heap_grow_old _ _ (by simpa using hb)]; rfl
  refine ⟨hS.os, hS.tape, hS.output, Nat.le_trans hS.drawn (by simp [Sort.grow, World.drewN]), Nat.le_trans hS.size (by simp [Sort.grow, World.drewN]), fun b o hbo => ?_, ?_⟩
  · have := hS.stay b o hbo
    rw [hb b (Array.getElem?_eq_some_iff.1 this).1]
    exact this
  · obtain ⟨bs, hn, hs, h⟩ := hS.own
    exact ⟨bs, hn, hs, h.loc fun b hm => hb b (h.lt b hm)⟩

/-! ### a row of builders -/
def flatB : List (Value × Value) → List Value
  | [] => []
  | (p, v) :: r => p :: v :: flatB r
theorem flatB_len : ∀ hs : List (Value × Value), (flatB hs).length = hs.length * 2
  | [] => rfl
  | (p, v) :: r => by simp only [flatB, List.length_cons, flatB_len r]; omega
theorem flatB_get : ∀ {hs : List (Value × Value)} {i : Nat} {p v : Value}, hs[i]? = some (p, v) → (flatB hs)[i * 2]? = some p ∧ (flatB hs)[i * 2 + 1]? = some v
  | [], i, p, v, h => by simp at h
  | (p', v') :: r, 0, p, v, h => by simp at h; simp [flatB, h]
  | (p', v') :: r, i + 1, p, v, h => by
    have := flatB_get (hs := r) (i := i) (p := p) (v := v) (by simpa using h)
    have e1 : (i + 1) * 2 = (i * 2) + 1 + 1 := by omega
    rw [e1]
    simp only [flatB, List.getElem?_cons_succ]
    exact this
theorem flatB_set0 : ∀ {hs : List (Value × Value)} {i : Nat} {p v : Value} (p' : Value), hs[i]? = some (p, v) → (flatB hs).take (i * 2) ++ [p'] ++ (flatB hs).drop (i * 2 + 1) = flatB (hs.set i (p', v))
  | [], i, p, v, p', h => by simp at h
  | (a, b) :: r, 0, p, v, p', h => by simp at h; simp [flatB, h]
  | (a, b) :: r, i + 1, p, v, p', h => by
    have := flatB_set0 (hs := r) (i := i) (p := p) (v := v) p' (by simpa using h)
    have e1 : (i + 1) * 2 = (i * 2) + 1 + 1 := by omega
    rw [e1]
    simp only [flatB, List.take_succ_cons, List.drop_succ_cons, List.cons_append, List.set_cons_succ, List.cons.injEq, true_and]
    exact this
theorem flatB_set1 : ∀ {hs : List (Value × Value)} {i : Nat} {p v : Value} (v' : Value), hs[i]? = some (p, v) → (flatB hs).take (i * 2 + 1) ++ [v'] ++ (flatB hs).drop (i * 2 + 1 + 1) = flatB (hs.set i (p, v'))
  | [], i, p, v, v', h => by simp at h
  | (a, b) :: r, 0, p, v, v', h => by simp at h; simp [flatB, h]
  | (a, b) :: r, i + 1, p, v, v', h => by
    have := flatB_set1 (hs := r) (i := i) (p := p) (v := v) v' (by simpa using h)
    have e1 : (i + 1) * 2 = (i * 2) + 1 + 1 := by omega
    rw [e1]
    simp only [flatB, List.take_succ_cons, List.drop_succ_cons, List.cons_append, List.set_cons_succ, List.cons.injEq, true_and]
    exact this
/-- The rows of the builders that have not become strings. -/
def brl (e : TypeId) : List (Value × Value) → List (Option (List Int)) → List Res
  | (_, v) :: hs, some xs :: oss => .arr (encInt .u8) e v xs :: brl e hs oss
  | _ :: hs, none :: oss => brl e hs oss
  | _, _ => []
theorem brl_pick (e : TypeId) : ∀ {hs : List (Value × Value)} {oss : List (Option (List Int))} {i : Nat} {p v : Value} {xs : List Int}, hs[i]? = some (p, v) → oss[i]? = some (some xs) → (brl e hs oss).Perm (.arr (encInt .u8) e v xs :: brl e hs (oss.set i none))
  | [], _, i, _, _, _, h, _ => by simp at h
  | _ :: _, [], i, _, _, _, _, h => by simp at h
  | (a, b) :: hs, q :: oss, 0, p, v, xs, h1, h2 => by
    simp at h1 h2
    subst h2
    obtain ⟨rfl, rfl⟩ := h1
    exact .refl _
  | (a, b) :: hs, q :: oss, i + 1, p, v, xs, h1, h2 => by
    have ih := brl_pick e (hs := hs) (oss := oss) (i := i) (p := p) (v := v) (xs := xs) (by simpa using h1) (by simpa using h2)
    cases q with
    | none => exact ih
    | some ys => exact (ih.cons _).trans (.swap _ _ _)
theorem brl_none (e : TypeId) : ∀ {hs : List (Value × Value)} {oss : List (Option (List Int))} {i : Nat} (x : Value × Value), brl e (hs.set i x) (oss.set i none) = brl e hs (oss.set i none)
  | [], _, i, x => by simp
  | _ :: _, [], i, x => by cases i <;> simp [brl]
  | (a, b) :: hs, q :: oss, 0, x => by simp [brl]
  | (a, b) :: hs, q :: oss, i + 1, x => by
    have ih := brl_none e (hs := hs) (oss := oss) (i := i) x
    cases q <;> simp [brl, ih]
theorem seps_append : ∀ {A B : List Res} {bs : List Nat}, seps s w (A ++ B) bs ↔ ∃ b1 b2, bs = b1 ++ b2 ∧ seps s w A b1 ∧ seps s w B b2
  | [], B, bs => ⟨fun h => ⟨[], bs, rfl, rfl, h⟩, fun ⟨b1, b2, e, h1, h2⟩ => by cases h1; rw [e]; exact h2⟩
  | R :: A, B, bs => by
    constructor
    · rintro ⟨c1, c2, e, h1, h2⟩
      obtain ⟨d1, d2, e2, h3, h4⟩ := seps_append.1 h2
      exact ⟨c1 ++ d1, d2, by rw [e, e2, List.append_assoc], ⟨c1, d1, rfl, h1, h3⟩, h4⟩
    · rintro ⟨b1, b2, e, ⟨c1, d1, e2, h1, h3⟩, h4⟩
      exact ⟨c1, d1 ++ b2, by rw [e, e2, List.append_assoc], h1, seps_append.2 ⟨d1, b2, rfl, h3, h4⟩⟩
abbrev selfAt (g : Nat) (i : Nat) (p : Value) : Prop := p = .pointer none ∨ p = .pointer (some ⟨g, i * 2, none⟩)
/-- A row of n builders in a block of its own. -/
def Res.blds (T e : TypeId) (g n : Nat) (oss : List (Option (List Int))) : Res where
  p := fun s w bs => ∃ hs : List (Value × Value), hs.length = n ∧ oss.length = n ∧ (∀ i p v, hs[i]? = some (p, v) → selfAt g i p) ∧ seps s w (.box g T (flatB hs) :: brl e hs oss) bs
  loc := fun ⟨hs, h1, h2, h3, h4⟩ hw => ⟨hs, h1, h2, h3, h4.loc hw⟩
  mono := fun l ⟨hs, h1, h2, h3, h4⟩ => ⟨hs, h1, h2, h3, h4.mono l⟩
  lt := fun ⟨_, _, _, _, h4⟩ => h4.lt
variable {g n : Nat} {oss : List (Option (List Int))}
theorem St.blds_open (hS : St w0 s (.blds T e g n oss :: H) w) : ∃ hs : List (Value × Value), hs.length = n ∧ oss.length = n ∧ (∀ i p v, hs[i]? = some (p, v) → selfAt g i p) ∧ St w0 s (.box g T (flatB hs) :: (brl e hs oss ++ H)) w := by
  obtain ⟨bs, hn, hs, b1, b2, e1, ⟨hds, h1, h2, h3, h4⟩, h5⟩ := hS.own
  subst e1
  refine ⟨hds, h1, h2, h3, hS.os, hS.tape, hS.output, hS.drawn, hS.size, hS.stay, _, hn, hs, ?_⟩
  exact (seps_append (A := .box g T (flatB hds) :: brl e hds oss) (B := H)).2 ⟨b1, b2, rfl, h4, h5⟩
theorem St.blds_close {hds : List (Value × Value)} (h1 : hds.length = n) (h2 : oss.length = n) (h3 : ∀ i p v, hds[i]? = some (p, v) → selfAt g i p) (hS : St w0 s (.box g T (flatB hds) :: (brl e hds oss ++ H)) w) : St w0 s (.blds T e g n oss :: H) w := by
  obtain ⟨bs, hn, hs, h⟩ := hS.own
  obtain ⟨b1, b2, e1, h4, h5⟩ := (seps_append (A := .box g T (flatB hds) :: brl e hds oss) (B := H)).1 h
  exact ⟨hS.os, hS.tape, hS.output, hS.drawn, hS.size, hS.stay, bs, hn, hs, b1, b2, e1, ⟨hds, h1, h2, h3, h4⟩, h5⟩
theorem St.blds_len (hS : St w0 s (.blds T e g n oss :: H) w) : oss.length = n := let ⟨_, _, h, _⟩ := hS.blds_open; h
/-- One builder comes to the front. -/
theorem St.blds_at {i : Nat} {xs : List Int} (hS : St w0 s (.blds T e g n oss :: H) w) (hx : oss[i]? = some (some xs)) : ∃ (hs : List (Value × Value)) (p v : Value), hs.length = n ∧ oss.length = n ∧ (∀ i p v, hs[i]? = some (p, v) → selfAt g i p) ∧ hs[i]? = some (p, v) ∧ selfAt g i p ∧ St w0 s (.box g T (flatB hs) :: .arr (encInt .u8) e v xs :: (brl e hs (oss.set i none) ++ H)) w := by
  obtain ⟨hs, h1, h2, h3, h4⟩ := hS.blds_open
  have hi := (List.getElem?_eq_some_iff.1 hx).1
  obtain ⟨⟨p, v⟩, hp⟩ : ∃ y, hs[i]? = some y := ⟨hs[i]'(by omega), by simp [show i < hs.length by omega]⟩
  exact ⟨hs, p, v, h1, h2, h3, hp, h3 _ _ _ hp, h4.perm (((brl_pick e hp hx).append_right H).cons _)⟩
theorem St.blds_put {i : Nat} {zs : List Int} {hs : List (Value × Value)} {p v p' v' : Value} (h1 : hs.length = n) (h2 : oss.length = n) (h3 : ∀ i p v, hs[i]? = some (p, v) → selfAt g i p) (hp : hs[i]? = some (p, v)) (hp' : selfAt g i p') (hS : St w0 s (.box g T (flatB (hs.set i (p', v'))) :: .arr (encInt .u8) e v' zs :: (brl e hs (oss.set i none) ++ H)) w) : St w0 s (.blds T e g n (oss.set i (some zs)) :: H) w := by
  have hi := (List.getElem?_eq_some_iff.1 hp).1
  refine St.blds_close (hds := hs.set i (p', v')) (by simp [h1]) (by simp [h2]) (fun j q u hj => ?_) (hS.perm ?_)
  · by_cases ej : i = j
    · subst ej
      rw [List.getElem?_set_self hi] at hj
      cases hj
      exact hp'
    · rw [List.getElem?_set_ne ej] at hj; exact h3 j q u hj
  · have := brl_pick e (hs := hs.set i (p', v')) (oss := oss.set i (some zs)) (i := i) (p := p') (v := v') (xs := zs) (by rw [List.getElem?_set_self hi]) (by rw [List.getElem?_set_self (by omega)])
    rw [List.set_set, brl_none e] at this
    exact ((this.symm.append_right H).cons _)
theorem St.blds_gone {i : Nat} {hs : List (Value × Value)} (h1 : hs.length = n) (h2 : oss.length = n) (h3 : ∀ i p v, hs[i]? = some (p, v) → selfAt g i p) (hS : St w0 s (.box g T (flatB hs) :: (brl e hs (oss.set i none) ++ H)) w) : St w0 s (.blds T e g n (oss.set i none) :: H) w :=
  St.blds_close h1 (by simp [h2]) h3 hS

/-! ### pure words -/
def bldW (oss : List (Option (List Int))) (l : Int) (q : ByteArray) : Option (List (Option (List Int))) := (idx oss l).bind fun o => o.bind fun xs => (appS xs q).bind fun zs => some (oss.set l.toNat (some zs))
def bldS (oss : List (Option (List Int))) (l : Int) : Option (ByteArray × List (Option (List Int))) := (idx oss l).bind fun o => o.bind fun xs => (strOf xs).bind fun q => some (q, oss.set l.toNat none)
theorem bldW_some {l : Int} {q : ByteArray} {r : List (Option (List Int))} (h : bldW oss l q = some r) : ∃ xs zs, 0 ≤ l ∧ oss[l.toNat]? = some (some xs) ∧ appS xs q = some zs ∧ r = oss.set l.toNat (some zs) := by
  unfold bldW at h
  simp only [Option.bind_eq_some_iff] at h
  obtain ⟨o, h1, xs, h2, zs, h3, h⟩ := h
  subst h2
  exact ⟨xs, zs, (idx_some h1).1, (idx_some h1).2.2, h3, (Option.some.inj h).symm⟩
theorem bldS_some {l : Int} {q : ByteArray} {r : List (Option (List Int))} (h : bldS oss l = some (q, r)) : ∃ xs, 0 ≤ l ∧ oss[l.toNat]? = some (some xs) ∧ strOf xs = some q ∧ r = oss.set l.toNat none := by
  unfold bldS at h
  simp only [Option.bind_eq_some_iff] at h
  obtain ⟨o, h1, xs, h2, zs, h3, h⟩ := h
  subst h2
  have := Option.some.inj h
  simp only [Prod.mk.injEq] at this
  exact ⟨xs, (idx_some h1).1, (idx_some h1).2.2, by rw [h3, this.1], this.2.symm⟩
/-! ### the operations -/
theorem flatB_rep (p v : Value) : ∀ n, (List.replicate n [p, v]).flatten = flatB (List.replicate n (p, v))
  | 0 => rfl
  | n + 1 => by rw [List.replicate_succ, List.flatten_cons, List.replicate_succ, flatB, flatB_rep p v n]; rfl
theorem seps_rep (w : World) : ∀ n, seps s w (brl e (List.replicate n ((Value.pointer none, Value.slice none 0 0) : Value × Value)) (List.replicate n (some []))) []
  | 0 => rfl
  | n + 1 => by
    rw [List.replicate_succ, List.replicate_succ]
    exact ⟨[], [], rfl, ⟨[], rfl, World.ownsRow_nil _ _ _ _, rfl⟩, seps_rep w n⟩
theorem Exec.make_blds {Te by_ : Nat} {k k' : IntKind} {l c : Operand} {n : Int} {oss : List (Option (List Int))} (hS : St w0 s H w) (hT : tySlice P T = some (Te, 2, by_)) (hz : tyZero P Te = some (.agg #[.pointer none, .slice none 0 0]))
    (ho : o.op = .makeSlice T l c) (hl : ρ l = .int k n) (hc : ρ c = .int k' n) (hm : mk by_ (some ([] : List Int)) n = some oss) (hk : ∀ g w', St w0 s (.blds Te e g n.toNat oss :: H) w' → K (.slice (some ⟨g, 0, none⟩) n.toNat n.toNat) w') : Exec P ρ o w K := by
  obtain ⟨h0, hb, h63, rfl⟩ := mk_some hm
  obtain ⟨i, hu, hi, hsz, hbs⟩ := tySlice_parts hT
  obtain ⟨i', hi', hz'⟩ := tyZero_parts hz
  rw [hi] at hi'
  cases hi'
  have hrun := run_make (P := P) w T Te i _ hu hi hz' k k' n n h0 (Int.le_refl _) (by rw [hbs]; have h : ((by_ * n.toNat : Nat) : Int) ≤ 281474976710656 := by omega
                                                                                      rw [Int.natCast_mul, Int.toNat_of_nonneg h0] at h; exact h) h63
  have hcells : (madeCells (Value.agg #[.pointer none, .slice none 0 0]).cells (n.toNat * i.size)).toList = (List.replicate n.toNat [Value.pointer none, Value.slice none 0 0]).flatten := by
    have := madeCells_eq (c := [Value.pointer none, Value.slice none 0 0]) (by decide) n.toNat
    rw [hsz]
    exact this
  have hv : (madeCells (Value.agg #[.pointer none, .slice none 0 0]).cells (n.toNat * i.size)) = (flatB (List.replicate n.toNat (Value.pointer none, Value.slice none 0 0))).toArray := by rw [← flatB_rep, ← hcells]
  rw [hv] at hrun
  have hA := hS.alloc Te (flatB (List.replicate n.toNat (Value.pointer none, Value.slice none 0 0)))
  have hB : St w0 s (.blds Te e w.heap.size n.toNat (List.replicate n.toNat (some [])) :: H) (w.alloc (.cells (flatB (List.replicate n.toNat (Value.pointer none, Value.slice none 0 0))).toArray Te)) := by
    refine St.blds_close (hds := List.replicate n.toNat (Value.pointer none, Value.slice none 0 0)) (by simp) (by simp) (fun j p v hj => ?_) ?_
    · rw [List.getElem?_replicate] at hj
      split at hj
      · cases hj; exact .inl rfl
      · cases hj
    · obtain ⟨bs, hn, hs, b1, b2, e1, h1, h2⟩ := hA.own
      exact ⟨hA.os, hA.tape, hA.output, hA.drawn, hA.size, hA.stay, bs, hn, hs, b1, b2, e1, h1, seps_append.2 ⟨[], b2, rfl, seps_rep _ _, h2⟩⟩
  refine .of_run (v := _) (w' := _) ?_ (hk _ _ hB)
  unfold execOp
  simp only [ho, hl, hc, Sem.run_bind, Sem.run_pure, Result.andThen_ok, hrun]
theorem Exec.index_blds {x i : Operand} {k : IntKind} {l : Int} {m by_ : Nat} {q : Option (List Int)} (hS : St w0 s (.blds m e g n oss :: H) w) (hT : tySlice P T = some (m, 2, by_)) (ho : o.op = .indexAddr T x i) (hx : ρ x = .slice (some ⟨g, 0, none⟩) n n) (hi : ρ i = .int k l) (hq : idx oss l = some q)
    (hk : K (.pointer (some ⟨g, 0 + l.toNat * 2, none⟩)) w) : Exec P ρ o w K := by
  have hl := hS.blds_len
  have h := idx_some hq
  exact Exec.index_slice hT ho hx hi h.1 (by omega) hk
theorem lies_row {n l : Nat} (hd : P.depth ≠ 0) (hc : P.cellsOf T = 2) (hs : sameLayout P P.depth T T = true) (hl : l < n) : liesAt P P.depth T n (l * 2) T 1 = true := by
  obtain ⟨d, hd⟩ : ∃ d, P.depth = d + 1 := ⟨P.depth - 1, by omega⟩
  have h1 : rowAt P (sameLayout P P.depth · T) (d + 1) T n (l * 2) 1 = true := by
    unfold rowAt
    rw [hc]
    simp [hs, show l + 1 ≤ n by omega]
  rw [← hd] at h1
  conv => lhs; rw [hd]
  unfold liesAt
  rw [h1]
  rfl
end
end Go.Pw
