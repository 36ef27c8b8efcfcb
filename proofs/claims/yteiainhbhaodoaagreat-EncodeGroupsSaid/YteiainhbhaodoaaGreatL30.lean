/- -/
import Derived.Test.YteiainhbhaodoaaGreatL4
set_option linter.unusedSimpArgs false
set_option linter.unusedVariables false
namespace Go.Pw
def Enc.Le {α : Type} (E F : Enc α) : Prop := E.sz = F.sz ∧ ∀ s cs a, E.rep s cs a → F.rep s cs a
structure Enc.Sup {α : Type} (G : Nat → Enc α) (L : Enc α) : Prop where
 sz : ∀ n, (G n).sz = L.sz
 up : ∀ n, (G n).Le (G (n + 1))
 le : ∀ n s cs a, (G n).rep s cs a → L.rep s cs a
 ex : ∀ s cs a, L.rep s cs a → ∃ n, (G n).rep s cs a
section
variable {α β γ : Type} {G : Nat → Enc α} {L : Enc α}
theorem Enc.Sup.more (h : Enc.Sup G L) {n m : Nat} (hm : n ≤ m) {s : PHeap} {cs : List Value} {a : α} (k : (G n).rep s cs a) : (G m).rep s cs a := by
 induction hm with
 | refl => exact k
 | step _ ih => exact (h.up _).2 _ _ _ ih
theorem Qgu (h : Enc.Sup G L) {s : PHeap} : ∀ {xs : List α} {cs : List Value}, reps L s cs xs → ∃ n, reps (G n) s cs xs
 | [], cs, hr => ⟨0, hr⟩
 | x :: xs, cs, ⟨c, r, e, h1, h2⟩ => by
  obtain ⟨n, hn⟩ := h.ex _ _ _ h1
  obtain ⟨m, hm⟩ := Qgu h h2
  refine ⟨max n m, c, r, e, h.more (Nat.le_max_left _ _) hn, ?_⟩
  exact reps_more h (Nat.le_max_right _ _) hm
where
 reps_more (h : Enc.Sup G L) {s : PHeap} {n m : Nat} (hm : n ≤ m) : ∀ {xs : List α} {cs : List Value}, reps (G n) s cs xs → reps (G m) s cs xs
  | [], cs, hr => hr
  | x :: xs, cs, ⟨c, r, e, h1, h2⟩ => ⟨c, r, e, h.more hm h1, reps_more h hm h2⟩
theorem QhG {E F : Enc α} (h : E.Le F) {s : PHeap} : ∀ {xs : List α} {cs : List Value}, reps E s cs xs → reps F s cs xs
 | [], cs, hr => hr
 | x :: xs, cs, ⟨c, r, e, h1, h2⟩ => ⟨c, r, e, h.2 _ _ _ h1, QhG h h2⟩
theorem Qeg {E F : Enc α} (h : E.Le F) {s : PHeap} {v : Value} {xs : List α} (hr : SliceRep E s v xs) : SliceRep F s v xs := by
 rcases hr with hr | hr | ⟨b, off, cap, c, T, fz, cells, hv, h1, h2, h3, h4, h5⟩
 ·exact .inl hr
 ·exact .inr (.inl hr)
 ·exact .inr (.inr ⟨b, off, cap, c, T, fz, cells, hv, h1, h2, h3, h4, QhG h h5⟩)
theorem Enc.Sup.slice (h : Enc.Sup G L) : Enc.Sup (fun n => Qp (G n)) (Qp L) := by
 refine ⟨fun _ => rfl, fun n => ⟨Z, ?_⟩, ?_, ?_⟩
 ·rintro s cs xs ⟨v, e, hr⟩
  exact ⟨v, e, Qeg (h.up n) hr⟩
 ·rintro n s cs xs ⟨v, e, hr⟩
  exact ⟨v, e, Qeg ⟨h.sz n, h.le n⟩ hr⟩
 ·rintro s cs xs ⟨v, e, hr⟩
  rcases hr with hr | hr | ⟨b, off, cap, c, T, fz, cells, hv, h1, h2, h3, h4, h5⟩
  ·exact ⟨0, v, e, .inl hr⟩
  ·exact ⟨0, v, e, .inr (.inl hr)⟩
  ·obtain ⟨n, hn⟩ := Qgu h h5
   exact ⟨n, v, e, .inr (.inr ⟨b, off, cap, c, T, fz, cells, hv, h1, h2, h3, h4, hn⟩)⟩
theorem Qem (A : Enc β) (h : Enc.Sup G L) : Enc.Sup (fun n => A.pair (G n)) (A.pair L) := by
 refine ⟨fun n => congrArg (A.sz + ·) (h.sz n), fun n => ⟨congrArg (A.sz + ·) (h.up n).1, ?_⟩, ?_, ?_⟩
 ·rintro s cs p ⟨c1, c2, e, h1, h2⟩
  exact ⟨c1, c2, e, h1, (h.up n).2 _ _ _ h2⟩
 ·rintro n s cs p ⟨c1, c2, e, h1, h2⟩
  exact ⟨c1, c2, e, h1, h.le n _ _ _ h2⟩
 ·rintro s cs p ⟨c1, c2, e, h1, h2⟩
  obtain ⟨n, hn⟩ := h.ex _ _ _ h2
  exact ⟨n, c1, c2, e, h1, hn⟩
theorem Enc.Sup.iso (f : γ → α) (h : Enc.Sup G L) : Enc.Sup (fun n => (G n).iso f) (L.iso f) :=
 ⟨h.sz, fun n => ⟨(h.up n).1, fun s cs a => (h.up n).2 s cs (f a)⟩, fun n s cs a => h.le n s cs (f a), fun s cs a => h.ex s cs (f a)⟩
end
section
variable {α : Type}
def QjV (α : Type) (k : Nat) (hk : 0 < k) : Enc α where
 agg := true
 sz := k
 pos := hk
 rep := fun _ _ _ => False
 len := by intro s cs a h; exact h.elim
 one := by intro s cs a h; exact h.elim
 mono := fun _ h => h.elim
 single := by intro h; cases h
def Qeb (F : Enc α → Enc α) (k : Nat) (hk : 0 < k) : Nat → Enc α
 | 0 => QjV α k hk
 | n + 1 => F (Qeb F k hk n)
def QeC (F : Enc α → Enc α) (k : Nat) (hk : 0 < k) (hs : ∀ E : Enc α, E.sz = k → (F E).sz = k) : Enc α where
 agg := true
 sz := k
 pos := hk
 rep := fun s cs a => ∃ n, (Qeb F k hk n).rep s cs a
 len := by
  rintro s cs a ⟨n, h⟩
  have : ∀ n, (Qeb F k hk n).sz = k := fun n => by
   induction n with
   | zero => rfl
   | succ n ih => exact hs _ ih
  rw [(Qeb F k hk n).len h, this]
 one := fun ⟨n, h⟩ => (Qeb F k hk n).one h
 mono := fun l ⟨n, h⟩ => ⟨n, (Qeb F k hk n).mono l h⟩
 single := by intro h; cases h
theorem QgX {F : Enc α → Enc α} {k : Nat} {hk : 0 < k} {hs : ∀ E : Enc α, E.sz = k → (F E).sz = k} (hm : ∀ E E' : Enc α, E.Le E' → (F E).Le (F E')) : Enc.Sup (Qeb F k hk) (QeC F k hk hs) := by
 have hz : ∀ n, (Qeb F k hk n).sz = k := fun n => by
  induction n with
  | zero => rfl
  | succ n ih => exact hs _ ih
 refine ⟨hz, fun n => ?_, fun n s cs a h => ⟨n, h⟩, fun s cs a h => h⟩
 induction n with
 | zero => exact ⟨(hs _ rfl).symm, fun _ _ _ h => h.elim⟩
 | succ n ih => exact hm _ _ ih
theorem QgY {F : Enc α → Enc α} {k : Nat} {hk : 0 < k} {hs : ∀ E : Enc α, E.sz = k → (F E).sz = k} (hm : ∀ E E' : Enc α, E.Le E' → (F E).Le (F E'))
  (hc : ∀ (G : Nat → Enc α) (L : Enc α), Enc.Sup G L → Enc.Sup (fun n => F (G n)) (F L)) (s : PHeap) (cs : List Value) (a : α) :
  (QeC F k hk hs).rep s cs a ↔ (F (QeC F k hk hs)).rep s cs a := by
 have hS := hc _ _ (QgX (hk := hk) (hs := hs) hm)
 constructor
 ·rintro ⟨n, h⟩
  cases n with
  | zero => exact h.elim
  | succ n => exact hS.le n _ _ _ h
 ·intro h
  obtain ⟨n, hn⟩ := hS.ex _ _ _ h
  exact ⟨n + 1, hn⟩
theorem Qf7 {F : Enc α → Enc α} (hc : ∀ (G : Nat → Enc α) (L : Enc α), Enc.Sup G L → Enc.Sup (fun n => F (G n)) (F L)) {E E' : Enc α} (h : E.Le E') : (F E).Le (F E') := by
 have hS : Enc.Sup (fun n => if n = 0 then E else E') E' := by
  refine ⟨fun n => ?_, fun n => ?_, fun n s cs a hr => ?_, fun s cs a hr => ⟨1, hr⟩⟩
  ·show (if n = 0 then E else E').sz = E'.sz
   split
   ·exact h.1
   ·rfl
  ·by_cases e : n = 0
   ·subst e; exact h
   ·simp only [e, if_false, Nat.succ_ne_zero, Nat.add_eq_zero_iff, Nat.one_ne_zero, and_false]
    exact ⟨Z, fun _ _ _ h => h⟩
  ·change (if n = 0 then E else E').rep s cs a at hr
   split at hr
   ·exact h.2 _ _ _ hr
   ·exact hr
 have h2 := hc _ _ hS
 exact ⟨h2.sz 0, h2.le 0⟩
end
section
variable {α β : Type} {E E' : Enc α} {F : Enc β} {off : Nat} {f : α → β}
theorem Sub.of_iff (h : ∀ s cs a, E.rep s cs a ↔ E'.rep s cs a) (k : Sub E' off F f) : Sub E off F f := fun s cs a hr => k s cs a ((h s cs a).1 hr)
theorem QgW (hg : E.agg = E'.agg) (h : ∀ s cs a, E.rep s cs a ↔ E'.rep s cs a) (s : PHeap) (v : Value) (a : α) : E.val s v a ↔ E'.val s v a := by
 unfold Enc.val
 rw [hg]
 split
 ·exact exists_congr fun cs => and_congr_right fun _ => h _ _ _
 ·exact h _ _ _
end
end Go.Pw
