/-
  My walk's base, part 2: what memory holds: a heap that stays (known, never written), data that are read off it, and what the call owns.
-/
import Derived.Test.YtcabhickgjhkhaaGreatDoorL1
namespace Go.Pw
/-! ### The heap that stays -/
abbrev PHeap := Nat → Option Obj
def PHeap.le (s t : PHeap) : Prop := ∀ b o, s b = some o → t b = some o
theorem Zv (s : PHeap) : PHeap.le s s := fun _ _ h => h
theorem PHeap.le.trans {s t u : PHeap} (h : PHeap.le s t) (k : PHeap.le t u) : PHeap.le s u := fun b o hb => k b o (h b o hb)
theorem Zt {s t u : PHeap} (h : PHeap.le s t) (k : PHeap.le t u) : PHeap.le s u := h.trans k
/-! ### How data lie in cells -/
structure Enc (α : Type) where
  agg : Bool
  sz : Nat
  pos : 0 < sz
  rep : PHeap → List Value → α → Prop
  len : ∀ {s cs a}, rep s cs a → cs.length = sz
  one : ∀ {s cs a}, rep s cs a → ∀ v ∈ cs, v.oneCell' = true
  mono : ∀ {s t cs a}, PHeap.le s t → rep s cs a → rep t cs a
  single : agg = false → sz = 1
/-- A value stands for a datum. -/
def Enc.val {α : Type} (E : Enc α) (s : PHeap) (v : Value) (a : α) : Prop := if E.agg then ∃ cs, v = .agg cs ∧ E.rep s cs.toList a else E.rep s [v] a
theorem Enc.val_mono {α : Type} {E : Enc α} {s t : PHeap} {v : Value} {a : α} (h : E.val s v a) (l : PHeap.le s t) : E.val t v a := by
  unfold Enc.val at *
  split
  · rename_i hg; rw [if_pos hg] at h; exact let ⟨cs, hv, hr⟩ := h; ⟨cs, hv, E.mono l hr⟩
  · rename_i hg; rw [if_neg hg] at h; exact E.mono l h
theorem Enc.val_cells {α : Type} {E : Enc α} {s : PHeap} {v : Value} {a : α} (h : E.val s v a) : E.rep s v.cells.toList a := by
  unfold Enc.val at h
  split at h
  · obtain ⟨cs, rfl, hr⟩ := h; exact hr
  · rename_i hg
    have h1 := E.one h v (by simp)
    have : v.cells = #[v] := by cases v <;> simp_all [Value.cells, Value.oneCell']
    rw [this]; exact h
def oneCell {α : Type} (f : α → Value) (h : ∀ a, (f a).oneCell' = true) : Enc α where
  agg := false
  sz := 1
  pos := by decide
  rep := fun _ cs a => cs = [f a]
  len := by rintro s cs a rfl; rfl
  one := by rintro s cs a rfl v hv; simp at hv; subst hv; exact h a
  mono := fun _ h => h
  single := fun _ => rfl
def encInt (k : IntKind) : Enc Int := oneCell (.int k) (fun _ => rfl)
def encBool : Enc Bool := oneCell .bool (fun _ => rfl)
def encStr : Enc ByteArray := oneCell .string (fun _ => rfl)
/-- An error that is nil or a code (T: the codes' type). -/
def errV (T : TypeId) : Option Int → Value
  | none => .nilIface
  | some n => .iface T (.int .i64 n)
/-- A value of one cell, as it is. -/
def encRaw : Enc Value where
  agg := false
  sz := 1
  pos := by decide
  rep := fun _ cs a => cs = [a] ∧ a.oneCell' = true
  len := by rintro s cs a ⟨rfl, _⟩; rfl
  one := by rintro s cs a ⟨rfl, h⟩ v hv; simp at hv; subst hv; exact h
  mono := fun _ h => h
  single := fun _ => rfl
theorem oneCell_val {α : Type} {f : α → Value} {h : ∀ a, (f a).oneCell' = true} {s : PHeap} {v : Value} {a : α} : (oneCell f h).val s v a ↔ v = f a := by
  simp [Enc.val, oneCell]
theorem encInt_val {k : IntKind} {s : PHeap} {v : Value} {a : Int} : (encInt k).val s v a ↔ v = .int k a := oneCell_val
theorem encStr_val {s : PHeap} {v : Value} {a : ByteArray} : encStr.val s v a ↔ v = .string a := oneCell_val
/-- Two data side by side. -/
def Enc.pair {α β : Type} (A : Enc α) (B : Enc β) : Enc (α × β) where
  agg := true
  sz := A.sz + B.sz
  pos := Nat.add_pos_left A.pos _
  rep := fun s cs p => ∃ c1 c2, cs = c1 ++ c2 ∧ A.rep s c1 p.1 ∧ B.rep s c2 p.2
  len := by rintro s cs p ⟨c1, c2, rfl, h1, h2⟩; simp [A.len h1, B.len h2]
  one := by rintro s cs p ⟨c1, c2, rfl, h1, h2⟩ v hv; rcases List.mem_append.1 hv with h | h; exact A.one h1 v h; exact B.one h2 v h
  mono := fun l ⟨c1, c2, e, h1, h2⟩ => ⟨c1, c2, e, A.mono l h1, B.mono l h2⟩
  single := by intro h; cases h
/-- A struct, by the data of its fields. -/
def Enc.iso {α β : Type} (A : Enc α) (f : β → α) : Enc β where
  agg := true
  sz := A.sz
  pos := A.pos
  rep := fun s cs b => A.rep s cs (f b)
  len := A.len
  one := A.one
  mono := A.mono
  single := by intro h; cases h
/-! ### Rows of data -/
def reps {α : Type} (E : Enc α) (s : PHeap) : List Value → List α → Prop
  | cs, [] => cs = []
  | cs, x :: xs => ∃ c r, cs = c ++ r ∧ E.rep s c x ∧ reps E s r xs
section
variable {α : Type} {E : Enc α} {s t : PHeap}
theorem reps.mono (l : PHeap.le s t) : ∀ {xs : List α} {cs : List Value}, reps E s cs xs → reps E t cs xs
  | [], _, h => h
  | _ :: _, _, ⟨c, r, e, h1, h2⟩ => ⟨c, r, e, E.mono l h1, reps.mono l h2⟩
theorem reps.len : ∀ {xs : List α} {cs : List Value}, reps E s cs xs → cs.length = xs.length * E.sz
  | [], _, h => by cases h; simp
  | x :: xs, _, ⟨c, r, e, h1, h2⟩ => by
    subst e
    simp only [List.length_append, List.length_cons, E.len h1, reps.len h2, Nat.add_mul, Nat.one_mul]
    omega
theorem reps.one : ∀ {xs : List α} {cs : List Value}, reps E s cs xs → ∀ v ∈ cs, v.oneCell' = true
  | [], _, h => by cases h; simp
  | x :: xs, _, ⟨c, r, e, h1, h2⟩ => by
    subst e
    intro v hv
    rcases List.mem_append.1 hv with h | h
    · exact E.one h1 v h
    · exact reps.one h2 v h
theorem reps.append : ∀ {xs ys : List α} {cs ds : List Value}, reps E s cs xs → reps E s ds ys → reps E s (cs ++ ds) (xs ++ ys)
  | [], _, _, _, h, k => by cases h; exact k
  | x :: xs, _, _, _, ⟨c, r, e, h1, h2⟩, k => ⟨c, r ++ _, by rw [e, List.append_assoc], h1, reps.append h2 k⟩
theorem reps.get : ∀ {xs : List α} {cs : List Value} {i : Nat} {x : α}, reps E s cs xs → xs[i]? = some x → ∃ c, E.rep s c x ∧ (cs.drop (i * E.sz)).take E.sz = c
  | [], _, _, _, _, hx => by simp at hx
  | y :: ys, _, 0, x, ⟨c, r, e, h1, h2⟩, hx => by
    simp at hx
    subst hx; subst e
    exact ⟨c, h1, by rw [Nat.zero_mul, List.drop_zero, ← E.len h1, List.take_left]⟩
  | y :: ys, _, i + 1, x, ⟨c, r, e, h1, h2⟩, hx => by
    simp at hx
    obtain ⟨d, hd, hr⟩ := reps.get h2 hx
    subst e
    refine ⟨d, hd, ?_⟩
    rw [← hr, Nat.add_mul, Nat.one_mul, Nat.add_comm (i * E.sz), ← List.drop_drop, ← E.len h1, List.drop_left]
theorem reps.set : ∀ {xs : List α} {cs : List Value} {i : Nat} {c : List Value} {x : α}, reps E s cs xs → i < xs.length → E.rep s c x →
    reps E s (cs.take (i * E.sz) ++ c ++ cs.drop (i * E.sz + E.sz)) (xs.set i x)
  | [], _, _, _, _, _, hi, _ => by simp at hi
  | y :: ys, _, 0, c, x, ⟨c1, r, e, h1, h2⟩, _, hc => by
    subst e
    refine ⟨c, r, ?_, hc, h2⟩
    simp only [Nat.zero_mul, List.take_zero, List.nil_append, Nat.zero_add]
    rw [← E.len h1, List.drop_left]
  | y :: ys, _, i + 1, c, x, ⟨c1, r, e, h1, h2⟩, hi, hc => by
    subst e
    refine ⟨c1, _, ?_, h1, reps.set h2 (by simpa using hi) hc⟩
    rw [show (i + 1) * E.sz = c1.length + i * E.sz by rw [E.len h1, Nat.add_mul]; omega, Nat.add_assoc, List.take_length_add_append, List.drop_length_add_append, List.append_assoc, List.append_assoc, List.append_assoc]
theorem reps.take : ∀ {xs : List α} {cs : List Value} (n : Nat), reps E s cs xs → reps E s (cs.take (n * E.sz)) (xs.take n)
  | [], _, n, h => by cases h; simp [reps]
  | x :: xs, _, 0, _ => by simp [reps]
  | x :: xs, _, n + 1, ⟨c, r, e, h1, h2⟩ => by
    subst e
    refine ⟨c, r.take (n * E.sz), ?_, h1, reps.take n h2⟩
    rw [show (n + 1) * E.sz = c.length + n * E.sz by rw [E.len h1, Nat.add_mul]; omega, List.take_length_add_append]
theorem reps.drop : ∀ {xs : List α} {cs : List Value} (n : Nat), reps E s cs xs → reps E s (cs.drop (n * E.sz)) (xs.drop n)
  | [], _, n, h => by cases h; simp [reps]
  | x :: xs, _, 0, h => by simpa using h
  | x :: xs, _, n + 1, ⟨c, r, e, h1, h2⟩ => by
    subst e
    rw [show (n + 1) * E.sz = c.length + n * E.sz by rw [E.len h1, Nat.add_mul]; omega, List.drop_length_add_append]
    exact reps.drop n h2
end
/-- A slice value that reads as a list, off the heap that stays. -/
def SliceRep {α : Type} (E : Enc α) (s : PHeap) (v : Value) (xs : List α) : Prop :=
  (v = .slice none 0 0 ∧ xs = []) ∨ (∃ (a : Addr) (cap : Nat), v = .slice (some a) 0 cap ∧ xs = []) ∨
  ∃ (b off cap : Nat) (c : Array Value) (T : TypeId) (fz : Nat × Nat) (cells : List Value), v = .slice (some ⟨b, off, none⟩) xs.length cap ∧ xs.length ≤ cap ∧ cap ≤ maxLen ∧
    s b = some (.cells c T fz) ∧ (c.toList.drop off).take cells.length = cells ∧ reps E s cells xs
theorem SliceRep.mono {α : Type} {E : Enc α} {s t : PHeap} {v : Value} {xs : List α} (l : PHeap.le s t) (h : SliceRep E s v xs) : SliceRep E t v xs := by
  rcases h with h | h | ⟨b, off, cap, c, T, fz, cells, hv, h1, h2, h3, h4, h5⟩
  · exact .inl h
  · exact .inr (.inl h)
  · exact .inr (.inr ⟨b, off, cap, c, T, fz, cells, hv, h1, h2, l _ _ h3, h4, h5.mono l⟩)
def encSlice {α : Type} (E : Enc α) : Enc (List α) where
  agg := false
  sz := 1
  pos := by decide
  rep := fun s cs xs => ∃ v, cs = [v] ∧ SliceRep E s v xs
  len := by rintro s cs xs ⟨v, rfl, _⟩; rfl
  one := by
    rintro s cs xs ⟨v, rfl, h⟩ u hu
    simp at hu; subst hu
    rcases h with ⟨rfl, _⟩ | ⟨a, cap, rfl, _⟩ | ⟨b, off, cap, c, T, fz, cells, rfl, _⟩ <;> rfl
  mono := fun l ⟨v, e, h⟩ => ⟨v, e, h.mono l⟩
  single := fun _ => rfl
theorem encSlice_val {α : Type} {E : Enc α} {s : PHeap} {v : Value} {xs : List α} : (encSlice E).val s v xs ↔ SliceRep E s v xs := by
  simp [Enc.val, encSlice]
/-- An array of fixed length, in cells. -/
def encArr {α : Type} (n : Nat) (hn : 0 < n) (E : Enc α) : Enc (List α) where
  agg := true
  sz := n * E.sz
  pos := Nat.mul_pos hn E.pos
  rep := fun s cs xs => xs.length = n ∧ reps E s cs xs
  len := by rintro s cs xs ⟨rfl, h⟩; exact h.len
  one := fun ⟨_, h⟩ => h.one
  mono := fun l ⟨e, h⟩ => ⟨e, h.mono l⟩
  single := by intro h; cases h
/-! ### What the call owns -/
structure Res where
  p : PHeap → World → List Nat → Prop
  loc : ∀ {s w w' bs}, p s w bs → (∀ b ∈ bs, w'.heap[b]? = w.heap[b]?) → p s w' bs
  mono : ∀ {s t w bs}, PHeap.le s t → p s w bs → p t w bs
  lt : ∀ {s w bs}, p s w bs → ∀ b ∈ bs, b < w.heap.size
/-- A block of cells, known whole. -/
def Res.box (b : Nat) (T : TypeId) (cs : List Value) : Res where
  p := fun _ w bs => bs = [b] ∧ w.heap[b]? = some (.cells cs.toArray T (0, 0))
  loc := by rintro s w w' bs ⟨rfl, h⟩ hw; exact ⟨rfl, by rw [hw b (by simp)]; exact h⟩
  mono := fun _ h => h
  lt := by rintro s w bs ⟨rfl, h⟩ b' hb; simp at hb; subst hb; exact (Array.getElem?_eq_some_iff.1 h).1
/-- A slice that the call has made, nil or at the head of a row of its own. -/
def Res.arr {α : Type} (E : Enc α) (T : TypeId) (v : Value) (xs : List α) : Res where
  p := fun s w bs => ∃ cells, reps E s cells xs ∧ w.ownsRow 0 T E.sz v xs.length cells ∧ bs = v.ownBlock.toList
  loc := by
    rintro s w w' bs ⟨cells, h1, ⟨h2, h3⟩, rfl⟩ hw
    refine ⟨cells, h1, ⟨h2, ?_⟩, rfl⟩
    rcases h3 with h | ⟨g, cap, cur, rfl, hb, hg, r⟩
    · exact .inl h
    · exact .inr ⟨g, cap, cur, rfl, hb, by rw [hw g (by simp [Value.ownBlock])]; exact hg, r⟩
  mono := fun l ⟨cells, h1, h⟩ => ⟨cells, h1.mono l, h⟩
  lt := by
    rintro s w bs ⟨cells, h1, h2, rfl⟩ b hb
    exact (h2.lt b (by simpa using hb)).2
/-- Rows of the call's own, under the headers that lie elsewhere. -/
def rowsP {α : Type} (E : Enc α) (T : TypeId) (s : PHeap) (w : World) : List Value → List (List α) → List Nat → Prop
  | [], [], bs => bs = []
  | h :: hs, xs :: xss, bs => ∃ b1 b2, bs = b1 ++ b2 ∧ (Res.arr E T h xs).p s w b1 ∧ rowsP E T s w hs xss b2
  | _, _, _ => False
theorem rowsP.loc {α : Type} {E : Enc α} {T : TypeId} {s : PHeap} {w w' : World} : ∀ {hs : List Value} {xss : List (List α)} {bs : List Nat}, rowsP E T s w hs xss bs → (∀ b ∈ bs, w'.heap[b]? = w.heap[b]?) → rowsP E T s w' hs xss bs
  | [], [], _, h, _ => h
  | _ :: _, _ :: _, _, ⟨b1, b2, e, h1, h2⟩, hw => by
    subst e
    exact ⟨b1, b2, rfl, (Res.arr E T _ _).loc h1 (fun b hb => hw b (List.mem_append_left _ hb)), rowsP.loc h2 (fun b hb => hw b (List.mem_append_right _ hb))⟩
  | [], _ :: _, _, h, _ => h.elim
  | _ :: _, [], _, h, _ => h.elim
theorem rowsP.mono {α : Type} {E : Enc α} {T : TypeId} {s t : PHeap} {w : World} (l : PHeap.le s t) : ∀ {hs : List Value} {xss : List (List α)} {bs : List Nat}, rowsP E T s w hs xss bs → rowsP E T t w hs xss bs
  | [], [], _, h => h
  | _ :: _, _ :: _, _, ⟨b1, b2, e, h1, h2⟩ => ⟨b1, b2, e, (Res.arr E T _ _).mono l h1, rowsP.mono l h2⟩
  | [], _ :: _, _, h => h.elim
  | _ :: _, [], _, h => h.elim
theorem rowsP.lt {α : Type} {E : Enc α} {T : TypeId} {s : PHeap} {w : World} : ∀ {hs : List Value} {xss : List (List α)} {bs : List Nat}, rowsP E T s w hs xss bs → ∀ b ∈ bs, b < w.heap.size
  | [], [], _, h, b, hb => by cases h; simp at hb
  | _ :: _, _ :: _, _, ⟨b1, b2, e, h1, h2⟩, b, hb => by
    subst e
    rcases List.mem_append.1 hb with h | h
    · exact (Res.arr E T _ _).lt h1 b h
    · exact rowsP.lt h2 b h
  | [], _ :: _, _, h, _, _ => h.elim
  | _ :: _, [], _, h, _, _ => h.elim
theorem rowsP.length {α : Type} {E : Enc α} {T : TypeId} {s : PHeap} {w : World} : ∀ {hs : List Value} {xss : List (List α)} {bs : List Nat}, rowsP E T s w hs xss bs → hs.length = xss.length
  | [], [], _, _ => rfl
  | _ :: _, _ :: _, _, ⟨_, _, _, _, h2⟩ => by simp [rowsP.length h2]
  | [], _ :: _, _, h => h.elim
  | _ :: _, [], _, h => h.elim
def Res.rows {α : Type} (E : Enc α) (T : TypeId) (hs : List Value) (xss : List (List α)) : Res where
  p := fun s w bs => rowsP E T s w hs xss bs
  loc := rowsP.loc
  mono := fun l h => rowsP.mono l h
  lt := rowsP.lt
def seps (s : PHeap) (w : World) : List Res → List Nat → Prop
  | [], bs => bs = []
  | R :: H, bs => ∃ b1 b2, bs = b1 ++ b2 ∧ R.p s w b1 ∧ seps s w H b2
theorem seps.loc {s : PHeap} {w w' : World} : ∀ {H : List Res} {bs : List Nat}, seps s w H bs → (∀ b ∈ bs, w'.heap[b]? = w.heap[b]?) → seps s w' H bs
  | [], _, h, _ => h
  | R :: _, _, ⟨b1, b2, e, h1, h2⟩, hw => by
    subst e
    exact ⟨b1, b2, rfl, R.loc h1 (fun b hb => hw b (List.mem_append_left _ hb)), seps.loc h2 (fun b hb => hw b (List.mem_append_right _ hb))⟩
theorem seps.mono {s t : PHeap} {w : World} (l : PHeap.le s t) : ∀ {H : List Res} {bs : List Nat}, seps s w H bs → seps t w H bs
  | [], _, h => h
  | R :: _, _, ⟨b1, b2, e, h1, h2⟩ => ⟨b1, b2, e, R.mono l h1, seps.mono l h2⟩
theorem seps.lt {s : PHeap} {w : World} : ∀ {H : List Res} {bs : List Nat}, seps s w H bs → ∀ b ∈ bs, b < w.heap.size
  | [], _, h, b, hb => by cases h; simp at hb
  | R :: _, _, ⟨b1, b2, e, h1, h2⟩, b, hb => by
    subst e
    rcases List.mem_append.1 hb with h | h
    · exact R.lt h1 b h
    · exact seps.lt h2 b h
theorem seps.perm {s : PHeap} {w : World} {H H' : List Res} (hp : H.Perm H') : ∀ {bs : List Nat}, seps s w H bs → ∃ bs', bs.Perm bs' ∧ seps s w H' bs' := by
  induction hp with
  | nil => exact fun h => ⟨_, .refl _, h⟩
  | cons R _ ih =>
    rintro bs ⟨b1, b2, e, h1, h2⟩
    obtain ⟨b2', hp', h2'⟩ := ih h2
    subst e
    exact ⟨b1 ++ b2', List.Perm.append_left _ hp', b1, b2', rfl, h1, h2'⟩
  | swap R R' H =>
    rintro bs ⟨b1, b2, e, h1, c1, c2, e2, h2, h3⟩
    subst e; subst e2
    refine ⟨c1 ++ (b1 ++ c2), ?_, c1, b1 ++ c2, rfl, h2, b1, c2, rfl, h1, h3⟩
    rw [← List.append_assoc, ← List.append_assoc]
    exact List.Perm.append_right _ List.perm_append_comm
  | trans _ _ ih1 ih2 =>
    intro bs h
    obtain ⟨bs1, p1, h1⟩ := ih1 h
    obtain ⟨bs2, p2, h2⟩ := ih2 h1
    exact ⟨bs2, p1.trans p2, h2⟩
/-- The state of the walk: since the world w0; the heap that stays; what is owned. -/
structure St (w0 : World) (s : PHeap) (H : List Res) (w : World) : Prop where
  os : w.os = w0.os
  tape : w.tape = w0.tape
  output : w.output = w0.output
  drawn : 0 ≤ w.drawn
  size : w0.heap.size ≤ w.heap.size
  stay : ∀ b o, s b = some o → w.heap[b]? = some o
  own : ∃ bs, bs.Nodup ∧ (∀ b ∈ bs, s b = none) ∧ seps s w H bs
section
variable {w0 w w' : World} {s t : PHeap} {H H' : List Res} {R : Res}
theorem St.perm (h : St w0 s H w) (hp : H.Perm H') : St w0 s H' w := by
  obtain ⟨bs, hn, hs, hb⟩ := h.own
  obtain ⟨bs', p', h'⟩ := hb.perm hp
  exact ⟨h.os, h.tape, h.output, h.drawn, h.size, h.stay, bs', p'.nodup_iff.1 hn, fun b hm => hs b (p'.mem_iff.2 hm), h'⟩
theorem St.drop (h : St w0 s (R :: H) w) : St w0 s H w := by
  obtain ⟨bs, hn, hs, b1, b2, e, h1, h2⟩ := h.own
  subst e
  exact ⟨h.os, h.tape, h.output, h.drawn, h.size, h.stay, b2, (List.nodup_append.1 hn).2.1, fun b hm => hs b (List.mem_append_right _ hm), h2⟩
theorem St.drew (h : St w0 s H w) : St w0 s H w.drew :=
  ⟨h.os, h.tape, h.output, Nat.le_succ_of_le h.drawn, h.size, h.stay, let ⟨bs, hn, hs, hb⟩ := h.own; ⟨bs, hn, hs, hb.loc fun _ _ => rfl⟩⟩
/-- No block that stays is a new one. -/
theorem St.new (h : St w0 s H w) : s w.heap.size = none := by
  cases e : s w.heap.size with
  | none => rfl
  | some o => have := h.stay _ _ e; simp at this
theorem heap_push_lt (w : World) (o : Obj) {b : Nat} (h : b < w.heap.size) : (w.alloc o).heap[b]? = w.heap[b]? := heap_alloc_old w o h
/-- A new block, owned. -/
theorem St.alloc (h : St w0 s H w) (T : TypeId) (cs : List Value) : St w0 s (.box w.heap.size T cs :: H) (w.alloc (.cells cs.toArray T)) := by
  obtain ⟨bs, hn, hs, hb⟩ := h.own
  have hlt := hb.lt
  refine ⟨h.os, h.tape, h.output, h.drawn, Nat.le_trans h.size (by simp), fun b o hbo => ?_, w.heap.size :: bs, List.nodup_cons.2 ⟨fun hm => Nat.lt_irrefl _ (hlt _ hm), hn⟩, ?_, [w.heap.size], bs, rfl, ⟨rfl, heap_alloc_new w _⟩, hb.loc fun b hm => heap_push_lt w _ (hlt b hm)⟩
  · have := h.stay b o hbo
    rw [heap_push_lt w _ (Array.getElem?_eq_some_iff.1 this).1]
    exact this
  · intro b hm
    rcases List.mem_cons.1 hm with e | hm
    · subst e; exact h.new
    · exact hs b hm
/-- The one step by which an owned thing turns: other blocks that it may have in the end are new; all else is as it was. -/
theorem St.turn {R' : Res} (h : St w0 s (R :: H) w) (hos : w'.os = w.os) (htape : w'.tape = w.tape) (hout : w'.output = w.output) (hdr : w.drawn ≤ w'.drawn) (hsize : w.heap.size ≤ w'.heap.size)
    (hk : ∀ b1, R.p s w b1 → ∃ b1', R'.p s w' b1' ∧ b1'.Nodup ∧ (∀ b ∈ b1', b ∈ b1 ∨ w.heap.size ≤ b) ∧ ∀ b, b < w.heap.size → b ∉ b1 → w'.heap[b]? = w.heap[b]?) : St w0 s (R' :: H) w' := by
  obtain ⟨bs, hn, hs, b1, b2, e, h1, h2⟩ := h.own
  subst e
  obtain ⟨b1', r1, r2, r3, r4⟩ := hk b1 h1
  have hlt2 := h2.lt
  obtain ⟨n1, n2, n3⟩ := List.nodup_append.1 hn
  refine ⟨hos.trans h.os, htape.trans h.tape, hout.trans h.output, Nat.le_trans h.drawn hdr, Nat.le_trans h.size hsize, fun b o hbo => ?_, b1' ++ b2, List.nodup_append.2 ⟨r2, n2, ?_⟩, ?_, b1', b2, rfl, r1, h2.loc fun b hm => ?_⟩
  · have hw := h.stay b o hbo
    rw [r4 b (Array.getElem?_eq_some_iff.1 hw).1 (fun hm => by have := hs b (List.mem_append_left _ hm); rw [this] at hbo; cases hbo)]
    exact hw
  · intro a ha b hb e
    subst e
    rcases r3 a ha with hm | hm
    · exact n3 a hm a hb rfl
    · have := hlt2 a hb; omega
  · intro b hm
    rcases List.mem_append.1 hm with hm | hm
    · rcases r3 b hm with hm | hm
      · exact hs b (List.mem_append_left _ hm)
      · cases e : s b with
        | none => rfl
        | some o => have := (Array.getElem?_eq_some_iff.1 (h.stay _ _ e)).1; omega
    · exact hs b (List.mem_append_right _ hm)
  · exact r4 b (hlt2 b hm) (fun hm' => n3 b hm' b hm rfl)
/-- What is owned is given to the heap that stays. -/
theorem St.freezeWith (h : St w0 s (R :: H) w) : ∃ (bs : List Nat) (t : PHeap), R.p s w bs ∧ PHeap.le s t ∧ (∀ b ∈ bs, t b = w.heap[b]?) ∧ St w0 t H w := by
  classical
  obtain ⟨bs, hn, hs, b1, b2, e, h1, h2⟩ := h.own
  subst e
  obtain ⟨n1, n2, n3⟩ := List.nodup_append.1 hn
  let t : PHeap := fun b => if b ∈ b1 then w.heap[b]? else s b
  have hle : PHeap.le s t := by
    intro b o hb
    have : b ∉ b1 := fun hm => by have := hs b (List.mem_append_left _ hm); rw [this] at hb; cases hb
    simp [t, this, hb]
  refine ⟨b1, t, h1, hle, fun b hb => by simp [t, hb], h.os, h.tape, h.output, h.drawn, h.size, ?_, b2, n2, ?_, h2.mono hle⟩
  · intro b o hb
    simp only [t] at hb
    split at hb
    · exact hb
    · exact h.stay b o hb
  · intro b hb
    have : b ∉ b1 := fun hm => n3 b hm b hb rfl
    simp only [t, if_neg this]
    exact hs b (List.mem_append_right _ hb)
end
end Go.Pw
