/- -/
import Derived.Test.YtjbjflndiajoiaaGreatDoorLB
import Derived.Test.YtjbjflndiajoiaaGreatDoorLC
import Derived.Test.YtjbjflndiajoiaaGreatDoorLE
set_option linter.unusedSimpArgs false
set_option linter.unusedVariables false
namespace Go.Pw
/-! ### loops -/
theorem Qkr {S : Type} {B : Nat → S → Option S} {n : Nat} (Inv : Nat → S → Prop) (h : ∀ j s, j < n → Inv j s → ∃ s', B j s = some s' ∧ Inv (j + 1) s') :
  ∀ (k i : Nat) (s : S), i + k = n → Inv i s → ∃ s', forS B k i s = some s' ∧ Inv n s'
 | 0, i, s, hn, hi => ⟨s, rfl, by rw [← hn]; exact hi⟩
 | k + 1, i, s, hn, hi => by
  obtain ⟨s', h1, h2⟩ := h i s (by omega) hi
  obtain ⟨t, h3, h4⟩ := Qkr Inv h k (i + 1) s' (by omega) h2
  exact ⟨t, by simp only [forS, h1, Option.bind_some, h3], h4⟩
theorem Qm3 {S : Type} {B : Nat → S → Option S} {n : Nat} {s : S} (Inv : Nat → S → Prop) (h0 : Inv 0 s) (h : ∀ j s, j < n → Inv j s → ∃ s', B j s = some s' ∧ Inv (j + 1) s') :
  ∃ s', forS B n 0 s = some s' ∧ Inv n s' := Qkr Inv h n 0 s (by omega) h0
def QmY {S R : Type} (Inv : S → Prop) (Rp : R → Prop) : Ctl S R → Prop
 | .next s => Inv s
 | .brk _ => False
 | .ret r => Rp r
theorem Qks {S R : Type} {B : Nat → S → Option (Ctl S R)} {n : Nat} (Inv : Nat → S → Prop) (Rp : R → Prop) (h : ∀ j s, j < n → Inv j s → ∃ c, B j s = some c ∧ QmY (Inv (j + 1)) Rp c) :
  ∀ (k i : Nat) (s : S), i + k = n → Inv i s → ∃ c, Jf B k i s = some c ∧ QmY (Inv n) Rp c
 | 0, i, s, hn, hi => ⟨.next s, rfl, by rw [← hn]; exact hi⟩
 | k + 1, i, s, hn, hi => by
  obtain ⟨c, h1, h2⟩ := h i s (by omega) hi
  cases c with
  | next s' =>
   obtain ⟨t, h3, h4⟩ := Qks Inv Rp h k (i + 1) s' (by omega) h2
   exact ⟨t, by simp only [Jf, h1, h3], h4⟩
  | brk s' => exact h2.elim
  | ret r => exact ⟨.ret r, by simp only [Jf, h1], h2⟩
theorem Qm4 {S R : Type} {B : Nat → S → Option (Ctl S R)} {n : Nat} {s : S} (Inv : Nat → S → Prop) (Rp : R → Prop) (h0 : Inv 0 s) (h : ∀ j s, j < n → Inv j s → ∃ c, B j s = some c ∧ QmY (Inv (j + 1)) Rp c) :
  ∃ c, Jf B n 0 s = some c ∧ QmY (Inv n) Rp c := Qks Inv Rp h n 0 s (by omega) h0
/-! ### lists and matrices -/
theorem Qo {α : Type} {xs : List α} {i : Nat} : Q9 xs (i : Int) = xs[i]? := by simp [Q9]
theorem QW {α : Type} {xs : List α} {i : Nat} {y : α} (h : i < xs.length) : JL xs (i : Int) y = some (xs.set i y) := by simp [JL, h]
/-! ### a small logic for what may fail -/
def Ok {α : Type} (x : Option α) (P : α → Prop) : Prop := ∃ r, x = some r ∧ P r
section
variable {α β S R : Type} {P P' : α → Prop} {x y : Option α}
theorem Ok.ret {a : α} (h : P a) : Ok (some a) P := ⟨a, rfl, h⟩
theorem Ok.bind {Q : β → Prop} {f : α → Option β} (h : Ok x fun a => Ok (f a) Q) : Ok (x.bind f) Q := by
 obtain ⟨a, e, r, e2, h2⟩ := h
 exact ⟨r, by rw [e]; exact e2, h2⟩
theorem Ok.step {Q : β → Prop} {f : α → Option β} {a : α} (e : x = some a) (h : Ok (f a) Q) : Ok (x.bind f) Q := Ok.bind ⟨a, e, h⟩
theorem Ok.mono (h : Ok x P) (k : ∀ a, P a → P' a) : Ok x P' := let ⟨a, e, h⟩ := h; ⟨a, e, k a h⟩
theorem Ok.must {Q : β → Prop} {b : Bool} {f : Unit → Option β} (hb : b = true) (h : Ok (f ()) Q) : Ok ((Go.Pw.must b).bind f) Q := Ok.step (by simp [Go.Pw.must, hb]) h
theorem QQ {B : Nat → S → Option S} {n : Nat} {s : S} {Q : S → Prop} (Inv : Nat → S → Prop) (h0 : Inv 0 s) (h : ∀ j s, j < n → Inv j s → Ok (B j s) (Inv (j + 1))) (k : ∀ s, Inv n s → Q s) : Ok (forS B n 0 s) Q :=
 let ⟨s', h1, h2⟩ := Qm3 Inv h0 h
 ⟨s', h1, k s' h2⟩
theorem Ok.ctl {B : Nat → S → Option (Ctl S R)} {n : Nat} {s : S} {Q : β → Prop} {kr : R → Option β} {ks : S → Option β} (Inv : Nat → S → Prop) (Rp : R → Prop) (h0 : Inv 0 s)
  (h : ∀ j s, j < n → Inv j s → Ok (B j s) (QmY (Inv (j + 1)) Rp)) (hr : ∀ r, Rp r → Ok (kr r) Q) (hn : ∀ s, Inv n s → Ok (ks s) Q) : Ok (ctl (Jf B n 0 s) kr ks) Q := by
 obtain ⟨c, h1, h2⟩ := Qm4 Inv Rp h0 h
 unfold Go.Pw.ctl
 rw [h1]
 cases c with
 | next s => exact hn s h2
 | brk s => exact h2.elim
 | ret r => exact hr r h2
end
theorem QeT {R : Type} {B : Nat → Unit → Option (Ctl Unit R)} {r : R} {p : Nat → Bool} : ∀ (k i : Nat), (∀ j, i ≤ j → j < i + k → B j () = some (if p j then .next () else .ret r)) → Jf B k i () = some (if (List.range' i k).all p then .next () else .ret r)
 | 0, i, _ => by simp [Jf]
 | k + 1, i, h => by
  have h0 := h i (Nat.le_refl _) (by omega)
  simp only [Jf, h0, List.range'_succ, List.all_cons]
  cases hp : p i with
  | true => simp only [if_true, Bool.true_and]; exact QeT k (i + 1) fun j h1 h2 => h j (by omega) (by omega)
  | false => simp
theorem QnY {R : Type} {B : Nat → Unit → Option (Ctl Unit R)} {r : R} {p : Nat → Bool} {n : Nat} (h : ∀ j, j < n → B j () = some (if p j then .next () else .ret r)) : Jf B n 0 () = some (if (List.range n).all p then .next () else .ret r) := by
 rw [QeT n 0 (fun j _ hj => h j (by omega)), List.range_eq_range']
theorem QdD {R β : Type} {B : Nat → Unit → Option (Ctl Unit R)} {r : R} {p : Nat → Bool} {n : Nat} {kr : R → Option β} {k : Unit → Option β} (h : ∀ j, j < n → B j () = some (if p j then .next () else .ret r)) : ctl (Jf B n 0 ()) kr k = if (List.range n).all p then k () else kr r := by
 rw [QnY h]
 unfold ctl
 split <;> rfl
theorem Qmf {S R : Type} {B : S → Option (Ctl S R)} (Inv : S → Prop) (Bp : S → Prop) (Rp : R → Prop) (μ : S → Nat) (h : ∀ s, Inv s → ∃ c, B s = some c ∧ (∀ s', c = .next s' → Inv s' ∧ μ s' < μ s) ∧ (∀ s', c = .brk s' → Bp s') ∧ (∀ r, c = .ret r → Rp r)) :
  ∀ (m : Nat) (s : S), μ s ≤ m → Inv s → ∃ c, JN B s = some c ∧ (∀ s', c ≠ .next s') ∧ (∀ s', c = .brk s' → Bp s') ∧ (∀ r, c = .ret r → Rp r) := by
 intro m
 induction m with
 | zero =>
  intro s hm hi
  obtain ⟨c, h1, h2, h3, h4⟩ := h s hi
  have hn : ∀ s', c ≠ .next s' := fun s' e => by have := (h2 s' e).2; omega
  exact ⟨c, QcZ h1 hn, hn, h3, h4⟩
 | succ m ih =>
  intro s hm hi
  obtain ⟨c, h1, h2, h3, h4⟩ := h s hi
  by_cases hn : ∃ s', c = .next s'
  ·obtain ⟨s', rfl⟩ := hn
   obtain ⟨hi', hlt⟩ := h2 s' rfl
   rw [Qg5 h1]
   exact ih s' (by omega) hi'
  ·have hn' : ∀ s', c ≠ .next s' := fun s' e => hn ⟨s', e⟩
   exact ⟨c, QcZ h1 hn', hn', h3, h4⟩
theorem Yu {S R β : Type} {B : S → Option (Ctl S R)} {s : S} {Q : β → Prop} {kr : R → Option β} {k : S → Option β} (Inv : S → Prop) (Bp : S → Prop) (Rp : R → Prop) (μ : S → Nat) (h0 : Inv s)
  (h : ∀ s, Inv s → ∃ c, B s = some c ∧ (∀ s', c = .next s' → Inv s' ∧ μ s' < μ s) ∧ (∀ s', c = .brk s' → Bp s') ∧ (∀ r, c = .ret r → Rp r))
  (hr : ∀ r, Rp r → Ok (kr r) Q) (hb : ∀ s, Bp s → Ok (k s) Q) : Ok (Go.Pw.ctl (JN B s) kr k) Q := by
 obtain ⟨c, h1, h2, h3, h4⟩ := Qmf Inv Bp Rp μ h (μ s) s (Nat.le_refl _) h0
 unfold Go.Pw.ctl
 rw [h1]
 cases c with
 | next s' => exact absurd rfl (h2 s')
 | brk s' => exact hb s' (h3 s' rfl)
 | ret r => exact hr r (h4 r rfl)
theorem Ok.eq {α : Type} {x : Option α} {a : α} (h : Ok x fun r => r = a) : x = some a := let ⟨r, h1, h2⟩ := h; by rw [h1, h2]
theorem Qps {α : Type} {x : Option α} {a : α} {P : α → Prop} (h : x = some a) (k : P a) : Ok x P := ⟨a, h, k⟩
theorem JB {α : Type} {b : Nat} {xs ys : List α} (h : (xs.length + ys.length) * b ≤ 140737488355328) : app b xs ys = some (xs ++ ys) := by unfold app; rw [if_pos h]
theorem QbS {α : Type} {b : Nat} {z : α} {n : Nat} (h : b * n ≤ 281474976710656) (hn : n ≤ 9223372036854775807) : mk b z (n : Int) = some (List.replicate n z) := by
 unfold mk; rw [if_pos ⟨by omega, by simpa using h, by omega⟩]; simp
theorem QD {n : Int} (h0 : -9223372036854775808 ≤ n) (h1 : n ≤ 9223372036854775807) : IntKind.i64.wrap n = n := Qkb h0 h1
end Go.Pw
/- -/
set_option maxHeartbeats 4000000
namespace Go.Pw
abbrev Inf : Int := 1125899906842624
abbrev QgI := Nat → Nat → Int → Prop
inductive Reach (A : QgI) (src : Nat → Prop) : Nat → Int → Prop
 | base {i : Nat} : src i → Reach A src i 0
 | step {v u : Nat} {c w : Int} : Reach A src v c → A v u w → Reach A src u (c + w)
structure AOK (A : QgI) (src : Nat → Prop) (n : Nat) : Prop where
 a : ∀ v u w, A v u w → v < n ∧ u < n ∧ 0 ≤ w ∧ w ≤ 1048576
 s : ∀ i, src i → i < n
structure Dst (A : QgI) (src : Nat → Prop) (n : Nat) (l : List Int) : Prop where
 len : l.length = n
 rng : ∀ (i : Nat) (x : Int), l[i]? = some x → 0 ≤ x ∧ x ≤ Inf
 s0 : ∀ (i : Nat), src i → l[i]? = some 0
 re : ∀ (i : Nat) (x : Int), l[i]? = some x → x < Inf → Reach A src i x
def Qjf (A : QgI) (l : List Int) (v : Nat) : Prop := ∀ (u : Nat) (w x y : Int), A v u w → l[v]? = some x → l[u]? = some y → x < Inf → y ≤ x + w
structure SP (A : QgI) (src : Nat → Prop) (n : Nat) (l : List Int) : Prop extends Dst A src n l where
 cl : ∀ v, Qjf A l v
section
variable {A : QgI} {src : Nat → Prop} {n : Nat} {l k : List Int}
theorem Reach.pos (hA : AOK A src n) {i : Nat} {c : Int} (h : Reach A src i c) : 0 ≤ c := by
 induction h with
 | base _ => exact Int.le_refl _
 | step _ h ih => have := (hA.a _ _ _ h).2.2.1; omega
theorem SP.le (hA : AOK A src n) (h : SP A src n l) {i : Nat} {c : Int} (hr : Reach A src i c) : c < Inf → ∃ y, l[i]? = some y ∧ y ≤ c := by
 induction hr with
 | base hs => exact fun _ => ⟨0, h.s0 _ hs, Int.le_refl _⟩
 | @step v u c w hr ha ih =>
  intro hc
  obtain ⟨_, hu, hw, _⟩ := hA.a _ _ _ ha
  have := hr.pos hA
  obtain ⟨x, hx, hxc⟩ := ih (by omega)
  obtain ⟨y, hy⟩ : ∃ y, l[u]? = some y := ⟨l[u]'(by rw [h.len]; exact hu), by simp [h.len, hu]⟩
  have := h.cl v u w x y ha hx hy (by omega)
  exact ⟨y, hy, by omega⟩
theorem SP.uniq (hA : AOK A src n) (h : SP A src n l) (h' : SP A src n k) : l = k := by
 apply List.ext_getElem?
 intro i
 by_cases hi : i < n
 ·obtain ⟨x, hx⟩ : ∃ x, l[i]? = some x := ⟨l[i]'(by rw [h.len]; exact hi), by simp [h.len, hi]⟩
  obtain ⟨y, hy⟩ : ∃ y, k[i]? = some y := ⟨k[i]'(by rw [h'.len]; exact hi), by simp [h'.len, hi]⟩
  have r1 := h.rng i x hx
  have r2 := h'.rng i y hy
  have h1 : x < Inf → y ≤ x := by
   intro hlt
   obtain ⟨y', hy', hle⟩ := h'.le hA (h.re i x hx hlt) hlt
   rw [hy] at hy'; cases hy'; exact hle
  have h2 : y < Inf → x ≤ y := by
   intro hlt
   obtain ⟨x', hx', hle⟩ := h.le hA (h'.re i y hy hlt) hlt
   rw [hx] at hx'; cases hx'; exact hle
  rw [hx, hy]
  have : x = y := by
   by_cases a : x < Inf
   ·have := h1 a; have := h2 (by omega); omega
   ·by_cases b : y < Inf
    ·have := h2 b; omega
    ·omega
  rw [this]
 ·rw [List.getElem?_eq_none (by rw [h.len]; omega), List.getElem?_eq_none (by rw [h'.len]; omega)]
theorem Dst.set (hA : AOK A src n) (h : Dst A src n l) {v u : Nat} {w x y : Int} (ha : A v u w) (hx : l[v]? = some x) (hy : l[u]? = some y) (hlt : x + w < y) : Dst A src n (l.set u (x + w)) := by
 obtain ⟨_, hu, hw, _⟩ := hA.a _ _ _ ha
 have rx := h.rng v x hx
 have ry := h.rng u y hy
 have hul : u < l.length := by rw [h.len]; exact hu
 refine ⟨by simp [h.len], fun i z hz => ?_, fun i hi => ?_, fun i z hz hzi => ?_⟩
 ·by_cases e : u = i
  ·subst e
   rw [List.getElem?_set_self hul] at hz
   cases hz; omega
  ·rw [List.getElem?_set_ne e] at hz; exact h.rng i z hz
 ·by_cases e : u = i
  ·subst e
   have := h.s0 u hi
   rw [hy] at this; cases this; omega
  ·rw [List.getElem?_set_ne e]; exact h.s0 i hi
 ·by_cases e : u = i
  ·subst e
   rw [List.getElem?_set_self hul] at hz
   cases hz
   exact .step (h.re v x hx (by omega)) ha
  ·rw [List.getElem?_set_ne e] at hz; exact h.re i z hz hzi
end
def tot (l : List Int) : Nat := (l.map Int.toNat).sum
theorem QgV : ∀ {l : List Int} {u : Nat} {y z : Int}, l[u]? = some y → 0 ≤ z → z < y → tot (l.set u z) < tot l
 | [], u, y, z, h, _, _ => by simp at h
 | a :: l, 0, y, z, h, h0, h1 => by
  simp only [List.getElem?_cons_zero, Option.some.injEq] at h
  subst h
  simp only [tot, List.set_cons_zero, List.map_cons, List.sum_cons]
  omega
 | a :: l, u + 1, y, z, h, h0, h1 => by
  have := QgV (l := l) (u := u) (y := y) (z := z) (by simpa using h) h0 h1
  simp only [tot, List.set_cons_succ, List.map_cons, List.sum_cons] at *
  omega
theorem nodup_short' : ∀ {n : Nat} {L : List Nat}, L.Nodup → (∀ x ∈ L, x < n) → L.length ≤ n
 | 0, L, _, h => by
  cases L with
  | nil => simp
  | cons a L => have := h a (by simp); omega
 | n + 1, L, hn, h => by
  have h1 : (L.filter fun x => decide (x ≠ n)).length ≤ n := nodup_short' (hn.sublist List.filter_sublist) (by
   intro x hx
   simp only [List.mem_filter, decide_eq_true_eq] at hx
   have := h x hx.1
   omega)
  have h2 : L.length ≤ (L.filter fun x => decide (x ≠ n)).length + 1 := by
   clear h h1
   induction L with
   | nil => simp
   | cons a L ih =>
    obtain ⟨ha, hL⟩ := List.nodup_cons.1 hn
    by_cases e : a = n
    ·subst e
     have : (L.filter fun x => decide (x ≠ a)) = L := by
      apply List.filter_eq_self.2
      intro x hx
      simp only [decide_eq_true_eq]
      rintro rfl; exact ha hx
     have e2 : ((a :: L).filter fun x => decide (x ≠ a)) = L.filter fun x => decide (x ≠ a) := by rw [List.filter_cons]; simp
     rw [e2, this]; simp
    ·have := ih hL
     simp only [List.filter_cons, ne_eq, e, not_false_eq_true, decide_true, if_true, List.length_cons] at *
     omega
  omega
end Go.Pw
/- -/
namespace Go.Pw
open Classical
/-! ### classes by first occurrence -/
abbrev Rel := Nat → Nat → Prop
structure Eqv (n : Nat) (R : Rel) : Prop where
 refl : ∀ i, i < n → R i i
 symm : ∀ i j, i < n → j < n → R i j → R j i
 trans : ∀ i j k, i < n → j < n → k < n → R i j → R j k → R i k
def Yp (R : Rel) (i : Nat) : Prop := ∀ j, j < i → ¬ R j i
noncomputable def rnk (R : Rel) : Nat → Nat
 | 0 => 0
 | i + 1 => rnk R i + if Yp R i then 1 else 0
theorem Qds (R : Rel) (i : Nat) : rnk R (i + 1) = rnk R i + if Yp R i then 1 else 0 := rfl
theorem rnk_le (R : Rel) (i : Nat) : rnk R i ≤ i := by
 induction i with
 | zero => exact Nat.le_refl _
 | succ i ih => rw [Qds]; split <;> omega
theorem Qek (R : Rel) {i j : Nat} (h : i ≤ j) : rnk R i ≤ rnk R j := by
 induction h with
 | refl => exact Nat.le_refl _
 | step _ ih => rw [Qds]; omega
theorem QkO {R : Rel} {i j : Nat} (h : i < j) (hi : Yp R i) : rnk R i < rnk R j := by
 have h1 : rnk R (i + 1) = rnk R i + 1 := by rw [Qds]; simp [hi]
 have h2 : rnk R (i + 1) ≤ rnk R j := Qek R (Nat.succ_le_of_lt h)
 omega
theorem QkQ {n : Nat} {R : Rel} (h : Eqv n R) (i : Nat) (hi : i < n) : ∃ r, r ≤ i ∧ R r i ∧ Yp R r := by
 induction i using Nat.strongRecOn with
 | ind i ih =>
  by_cases hr : Yp R i
  ·exact ⟨i, Nat.le_refl _, h.refl i hi, hr⟩
  ·have : ∃ j, j < i ∧ R j i := by
    apply Classical.byContradiction
    intro hn
    exact hr fun j hj hR => hn ⟨j, hj, hR⟩
   obtain ⟨j, hj, hR⟩ := this
   obtain ⟨r, h1, h2, h3⟩ := ih j hj (by omega)
   exact ⟨r, by omega, h.trans r j i (by omega) (by omega) hi h2 hR, h3⟩
theorem Qht {n : Nat} {R : Rel} (h : Eqv n R) {i r s : Nat} (hi : i < n) (h1 : r < n) (h2 : s < n) (hr : R r i) (hs : R s i) (pr : Yp R r) (ps : Yp R s) : r = s := by
 have hrs : R r s := h.trans r i s h1 hi h2 hr (h.symm s i h2 hi hs)
 rcases Nat.lt_trichotomy r s with hlt | e | hlt
 ·exact absurd hrs (ps r hlt)
 ·exact e
 ·exact absurd (h.symm r s h1 h2 hrs) (pr s hlt)
def Qeh (R : Rel) (i : Nat) (k : Nat) : Prop := ∃ r, r ≤ i ∧ R r i ∧ Yp R r ∧ k = rnk R r
theorem Qf8 {n : Nat} {R : Rel} (h : Eqv n R) {i k l : Nat} (hi : i < n) (hk : Qeh R i k) (hl : Qeh R i l) : k = l := by
 obtain ⟨r, a1, a2, a3, rfl⟩ := hk
 obtain ⟨s, b1, b2, b3, rfl⟩ := hl
 rw [Qht h hi (by omega) (by omega) a2 b2 a3 b3]
theorem QoV {n : Nat} {R : Rel} (h : Eqv n R) {i j k l : Nat} (hi : i < n) (hj : j < n) (hk : Qeh R i k) (hl : Qeh R j l) : k = l ↔ R i j := by
 obtain ⟨r, a1, a2, a3, rfl⟩ := hk
 obtain ⟨s, b1, b2, b3, rfl⟩ := hl
 constructor
 ·intro e
  have : r = s := by
   rcases Nat.lt_trichotomy r s with hlt | e' | hlt
   ·have := QkO hlt a3; omega
   ·exact e'
   ·have := QkO hlt b3; omega
  subst this
  exact h.trans i r j hi (by omega) hj (h.symm r i (by omega) hi a2) b2
 ·intro hR
  have : R r j := h.trans r i j (by omega) hi hj a2 hR
  rw [Qht h hj (by omega) (by omega) this b2 a3 b3]
theorem Qnv {n : Nat} {R : Rel} {i k : Nat} (hi : i < n) (hk : Qeh R i k) : k < rnk R n := by
 obtain ⟨r, a1, a2, a3, rfl⟩ := hk
 exact QkO (by omega) a3
theorem Qoi {n : Nat} {R : Rel} (h : Eqv n R) {i : Nat} (hi : i < n) : (Yp R i ∧ Qeh R i (rnk R i)) ∨ (¬ Yp R i ∧ ∃ j, j < i ∧ R j i ∧ Yp R j ∧ Qeh R i (rnk R j) ∧ Qeh R j (rnk R j)) := by
 obtain ⟨r, h1, h2, h3⟩ := QkQ h i hi
 by_cases hr : Yp R i
 ·exact .inl ⟨hr, i, Nat.le_refl _, h.refl i hi, hr, rfl⟩
 ·refine .inr ⟨hr, r, ?_, h2, h3, ⟨r, h1, h2, h3, rfl⟩, ⟨r, Nat.le_refl _, h.refl r (by omega), h3, rfl⟩⟩
  rcases Nat.lt_or_ge r i with hlt | hge
  ·exact hlt
  ·have : r = i := by omega
   subst this; exact absurd h3 hr
def ClsL (R : Rel) (n : Nat) (c : List Int) : Prop := c.length = n ∧ ∀ i, i < n → ∃ k : Nat, c[i]? = some (k : Int) ∧ Qeh R i k
theorem ClsL.uniq {n : Nat} {R : Rel} (h : Eqv n R) {c d : List Int} (hc : ClsL R n c) (hd : ClsL R n d) : c = d := by
 apply List.ext_getElem?
 intro i
 by_cases hi : i < n
 ·obtain ⟨k, a1, a2⟩ := hc.2 i hi
  obtain ⟨l, b1, b2⟩ := hd.2 i hi
  rw [a1, b1, Qf8 h hi a2 b2]
 ·rw [List.getElem?_eq_none (by have := hc.1; omega), List.getElem?_eq_none (by have := hd.1; omega)]
theorem QgB {n : Nat} {R S : Rel} (e : ∀ i j, i < n → j < n → (R i j ↔ S i j)) {i : Nat} (hi : i < n) : Yp R i ↔ Yp S i := by
 unfold Yp
 constructor
 ·intro h j hj hS; exact h j hj ((e j i (by omega) hi).2 hS)
 ·intro h j hj hS; exact h j hj ((e j i (by omega) hi).1 hS)
theorem Qc0 {n : Nat} {R S : Rel} (e : ∀ i j, i < n → j < n → (R i j ↔ S i j)) {i : Nat} (hi : i ≤ n) : rnk R i = rnk S i := by
 induction i with
 | zero => rfl
 | succ i ih =>
  unfold rnk
  rw [ih (by omega)]
  have := QgB e (i := i) (by omega)
  by_cases hr : Yp R i
  ·simp [hr, this.1 hr]
  ·have h2 : ¬ Yp S i := fun h => hr (this.2 h)
   simp [hr, h2]
theorem ClsL.congr {n : Nat} {R S : Rel} (e : ∀ i j, i < n → j < n → (R i j ↔ S i j)) {c : List Int} (hc : ClsL R n c) : ClsL S n c := by
 refine ⟨hc.1, fun i hi => ?_⟩
 obtain ⟨k, a1, r, a2, a3, a4, rfl⟩ := hc.2 i hi
 exact ⟨_, a1, r, a2, (e r i (by omega) hi).1 a3, (QgB e (by omega)).1 a4, Qc0 e (by omega)⟩
theorem ClsL.iff {n : Nat} {R : Rel} (h : Eqv n R) {c : List Int} (hc : ClsL R n c) {i j : Nat} (hi : i < n) (hj : j < n) : c[i]? = c[j]? ↔ R i j := by
 obtain ⟨k, a1, a2⟩ := hc.2 i hi
 obtain ⟨l, b1, b2⟩ := hc.2 j hj
 rw [a1, b1, ← QoV h hi hj a2 b2]
 simp
 omega
/-! ### finer relations -/
theorem QiJ {n : Nat} {R S : Rel} (hR : Eqv n R) (hS : Eqv n S) (sub : ∀ i j, i < n → j < n → S i j → R i j) : ∀ i, i ≤ n → rnk R i ≤ rnk S i := by
 intro i hi
 induction i with
 | zero => exact Nat.le_refl _
 | succ i ih =>
  unfold rnk
  have := ih (by omega)
  by_cases hr : Yp R i
  ·have : Yp S i := fun j hj hSj => hr j hj (sub j i (by omega) (by omega) hSj)
   simp [hr, this]; omega
  ·simp [hr]; omega
theorem QnB {n : Nat} {R S : Rel} (hR : Eqv n R) (hS : Eqv n S) (sub : ∀ i j, i < n → j < n → S i j → R i j) (e : rnk R n = rnk S n) : ∀ i j, i < n → j < n → (R i j ↔ S i j) := by
 have key : ∀ m, m ≤ n → rnk R m = rnk S m := by
  intro m hm
  have h1 := QiJ hR hS sub m hm
  have h2 : ∀ d, m + d ≤ n → rnk R (m + d) - rnk R m ≤ rnk S (m + d) - rnk S m := by
   intro d
   induction d with
   | zero => intro _; simp
   | succ d ih =>
    intro hd
    have := ih (by omega)
    have m1 := Qek R (show m ≤ m + d by omega)
    have m2 := Qek S (show m ≤ m + d by omega)
    rw [show m + (d + 1) = (m + d) + 1 by omega]
    have e1 : rnk R (m + d + 1) = rnk R (m + d) + if Yp R (m + d) then 1 else 0 := rfl
    have e2 : rnk S (m + d + 1) = rnk S (m + d) + if Yp S (m + d) then 1 else 0 := rfl
    by_cases hr : Yp R (m + d)
    ·have : Yp S (m + d) := fun j hj hSj => hr j hj (sub j _ (by omega) (by omega) hSj)
     rw [e1, e2]; simp only [hr, this, if_true]; omega
    ·rw [e1, e2]; simp only [hr, if_false]; split <;> omega
  have h3 := h2 (n - m) (by omega)
  rw [show m + (n - m) = n by omega] at h3
  have m1 := Qek R hm
  have m2 := Qek S hm
  omega
 have reps : ∀ i, i < n → Yp S i → Yp R i := by
  intro i hi hS'
  have a := key i (by omega)
  have b := key (i + 1) (by omega)
  unfold rnk at b
  by_cases hr : Yp R i
  ·exact hr
  ·simp only [hr, hS', if_true, if_false] at b; omega
 intro i j hi hj
 refine ⟨fun h => ?_, sub i j hi hj⟩
 obtain ⟨r, a1, a2, a3⟩ := QkQ hS i hi
 obtain ⟨s, b1, b2, b3⟩ := QkQ hS j hj
 have hr := reps r (by omega) a3
 have hs := reps s (by omega) b3
 have h1 : R r j := hR.trans r i j (by omega) hi hj (sub r i (by omega) hi a2) h
 have := Qht hR hj (by omega) (by omega) h1 (sub s j (by omega) hj b2) hr hs
 subst this
 exact hS.trans i r j hi (by omega) hj (hS.symm r i (by omega) hi a2) b2
/-! ### stable relations -/
structure TS where
 n : Nat
 goal : Nat → Bool
 edge : Nat → Nat → Nat → Prop
 rng : ∀ i l t, edge i l t → i < n ∧ t < n
def Qjc (x : TS) (R : Rel) (i j : Nat) : Prop := ∀ l t, x.edge i l t → ∃ u, x.edge j l u ∧ R t u
def sig (x : TS) (R : Rel) : Rel := fun i j => Qjc x R i j ∧ Qjc x R j i
theorem QgX {x : TS} {R : Rel} (h : Eqv x.n R) : Eqv x.n (sig x R) := by
 have hr : ∀ i, Qjc x R i i := fun i l t e => ⟨t, e, h.refl t (x.rng _ _ _ e).2⟩
 have ht : ∀ i j k, Qjc x R i j → Qjc x R j k → Qjc x R i k := by
  intro i j k h1 h2 l t e
  obtain ⟨u, e1, r1⟩ := h1 l t e
  obtain ⟨v, e2, r2⟩ := h2 l u e1
  exact ⟨v, e2, h.trans t u v (x.rng _ _ _ e).2 (x.rng _ _ _ e1).2 (x.rng _ _ _ e2).2 r1 r2⟩
 exact ⟨fun i _ => ⟨hr i, hr i⟩, fun i j _ _ h => ⟨h.2, h.1⟩, fun i j k _ _ _ h1 h2 => ⟨ht i j k h1.1 h2.1, ht k j i h2.2 h1.2⟩⟩
def Rel.and (R S : Rel) : Rel := fun i j => R i j ∧ S i j
theorem Eqv.and {n : Nat} {R S : Rel} (h : Eqv n R) (k : Eqv n S) : Eqv n (R.and S) :=
 ⟨fun i hi => ⟨h.refl i hi, k.refl i hi⟩, fun i j hi hj p => ⟨h.symm i j hi hj p.1, k.symm i j hi hj p.2⟩, fun i j l hi hj hl p q => ⟨h.trans i j l hi hj hl p.1 q.1, k.trans i j l hi hj hl p.2 q.2⟩⟩
def QjY (x : TS) : Rel := fun i j => x.goal i = x.goal j
theorem Qm1 (x : TS) : Eqv x.n (QjY x) := ⟨fun _ _ => rfl, fun _ _ _ _ h => h.symm, fun _ _ _ _ _ _ h k => h.trans k⟩
def Qiu (n : Nat) (R S : Rel) : Prop := ∀ i j, i < n → j < n → R i j → S i j
structure Stable (x : TS) (R : Rel) : Prop where
 eqv : Eqv x.n R
 goal : Qiu x.n R (QjY x)
 sig : Qiu x.n R (sig x R)
theorem QiS {x : TS} {R S : Rel} (h : Qiu x.n R S) {i j : Nat} (k : Qjc x R i j) : Qjc x S i j := by
 intro l t e
 obtain ⟨u, e1, r1⟩ := k l t e
 exact ⟨u, e1, h t u (x.rng _ _ _ e).2 (x.rng _ _ _ e1).2 r1⟩
theorem Qke {x : TS} {R S : Rel} (h : Qiu x.n R S) : ∀ i j, sig x R i j → sig x S i j := fun i j k => ⟨QiS h k.1, QiS h k.2⟩
theorem Stable.keep {x : TS} {S R : Rel} (h : Stable x S) (k : Qiu x.n S R) : Qiu x.n S (R.and (Go.Pw.sig x R)) := fun i j hi hj hS => ⟨k i j hi hj hS, Qke k i j (h.sig i j hi hj hS)⟩
theorem Stable.uniq {x : TS} {R S : Rel} (hR : Stable x R) (hS : Stable x S) (cR : ∀ T, Stable x T → Qiu x.n T R) (cS : ∀ T, Stable x T → Qiu x.n T S) : ∀ i j, i < x.n → j < x.n → (R i j ↔ S i j) :=
 fun i j hi hj => ⟨cS R hR i j hi hj, cR S hS i j hi hj⟩
end Go.Pw
/- -/
set_option maxHeartbeats 4000000
namespace Go.Pw
theorem JP {α : Type} {xs : List α} {i : Nat} (h : i < xs.length) : ∃ y, xs[i]? = some y := ⟨xs[i], by simp [h]⟩
noncomputable def Qf7 {α : Type} (eq : α → α → Bool) (z : α) (s : List α) : Option (Nat × (List α)) :=
 if decide ((s.length : Int) < 2) then (some ((s).length, s))
 else (ctl (JN (R := (Nat × (List α))) (fun (k : Int) => if decide (k < (s.length : Int)) then ((Q9 s k).bind fun x =>
 (Q9 s (IntKind.i64.wrap (k - 1))).bind fun y =>
 if eq x y then ((Qa3 s k (s.length : Int)).bind fun n =>
 ctl (JN (R := (Nat × (List α))) (un3 fun (k9 : Int) (k2 : Int) (l : (List α)) => if decide (k2 < (n : Int)) then ((Qdf l k n k2).bind fun a =>
 (Qdf l k n (IntKind.i64.wrap (k2 - 1))).bind fun b =>
 (if !(eq a b) then ((Qdf l k n k2).bind fun c =>
 (Q9 l k9).bind fun d =>
 (JL l k9 c).bind fun l' =>
 some (IntKind.i64.wrap (k9 + 1), l'))
 else (some (k9, l))).bind (QI fun (k9 : Int) (l : (List α)) => some (Ctl.next (k9, IntKind.i64.wrap (k2 + 1), l))))
 else (some (Ctl.brk (k9, k2, l)))) (k, 1, s)) (fun r => some (Ctl.ret r)) (un3 fun (k9 : Int) (k2 : Int) (l : (List α)) => (Qa3 l k9 (l.length : Int)).bind fun n1 =>
 (Qa3 ((l).take (k9).toNat ++ List.replicate n1 z ++ (l).drop ((k9).toNat + n1)) 0 k9).bind fun n2 =>
 some (Ctl.ret (n2, (l).take (k9).toNat ++ List.replicate n1 z ++ (l).drop ((k9).toNat + n1)))))
 else (some (Ctl.next (IntKind.i64.wrap (k + 1)))))
 else (some (Ctl.brk k))) 1) (fun r => some r) (fun (k : Int) => some ((s).length, s)))
open Classical in
noncomputable def dd {α : Type} : Option α → List α → List α
 | _, [] => []
 | p, x :: r => if p = some x then dd (some x) r else x :: dd (some x) r
def QeX {α : Type} (p : Option α) (l : List α) : Option α := match l.getLast? with | some x => some x | none => p
open Classical in
theorem QlQ {α : Type} (x : α) : ∀ (l : List α) (p : Option α), dd p (l ++ [x]) = dd p l ++ (if QeX p l = some x then [] else [x])
 | [], p => by by_cases h : p = some x <;> simp [dd, QeX, h]
 | y :: l, p => by
  have ih := QlQ x l (some y)
  have e : QeX p (y :: l) = QeX (some y) l := by cases l <;> simp [QeX, List.getLast?_cons]
  rw [e]
  simp only [List.cons_append, dd]
  by_cases h : p = some y
  ·rw [if_pos h, if_pos h, ih]
  ·rw [if_neg h, if_neg h, ih]; rfl
theorem Qjl {α : Type} : ∀ (l : List α) (p : Option α), (dd p l).length ≤ l.length
 | [], p => by simp [dd]
 | y :: l, p => by
  have ih := Qjl l (some y)
  simp only [dd]
  split <;> simp <;> omega
theorem Qnt {α : Type} : ∀ (l : List α) (p : Option α), (dd p l).Sublist l
 | [], p => by simp [dd]
 | y :: l, p => by
  have ih := Qnt l (some y)
  simp only [dd]
  split
  ·exact ih.cons _
  ·exact ih.cons_cons _
theorem Qnu {α : Type} {x : α} : ∀ (l : List α) (p : Option α), x ∈ l → x ∈ dd p l ∨ p = some x
 | [], p, h => by simp at h
 | y :: l, p, h => by
  simp only [dd]
  rcases List.mem_cons.1 h with rfl | h
  ·by_cases hp : p = some x
   ·exact .inr hp
   ·rw [if_neg hp]; exact .inl (by simp)
  ·rcases Qnu l (some y) h with h1 | h1
   ·left; split
    ·exact h1
    ·exact List.mem_cons_of_mem _ h1
   ·cases h1
    by_cases hp : p = some x
    ·exact .inr hp
    ·rw [if_neg hp]; exact .inl (by simp)
theorem QkT {α : Type} {x : α} (l : List α) : x ∈ dd none l ↔ x ∈ l := ⟨fun h => (Qnt l none).subset h, fun h => (Qnu l none h).resolve_right (by simp)⟩
theorem QeC {α : Type} {le lt : α → α → Prop} (h : ∀ a b, le a b → a ≠ b → lt a b) (tr : ∀ a b c, le a b → lt b c → lt a c) (tr2 : ∀ a b c, le a b → le b c → le a c) : ∀ (l : List α) (p : Option α), l.Pairwise le → (∀ q, p = some q → ∀ x ∈ l, le q x) → (dd p l).Pairwise lt ∧ ∀ q, p = some q → ∀ x ∈ dd p l, lt q x
 | [], p, _, _ => by simp [dd]
 | y :: l, p, hs, hp => by
  obtain ⟨h1, h2⟩ := List.pairwise_cons.1 hs
  obtain ⟨i1, i2⟩ := QeC h tr tr2 l (some y) h2 fun q hq x hx => by cases hq; exact h1 x hx
  simp only [dd]
  by_cases e : p = some y
  ·rw [if_pos e]
   exact ⟨i1, fun q hq x hx => by rw [e] at hq; cases hq; exact i2 y rfl x hx⟩
  ·rw [if_neg e]
   refine ⟨List.pairwise_cons.2 ⟨i2 y rfl, i1⟩, fun q hq x hx => ?_⟩
   have hqy : le q y := hp q hq y (by simp)
   rcases List.mem_cons.1 hx with rfl | hx
   ·exact h q x hqy fun e2 => e (by rw [hq, e2])
   ·exact tr q y x hqy (i2 y rfl x hx)
theorem QkA {α : Type} {s : List α} {i : Nat} (h0 : 0 < i) (h : i ≤ s.length) : QeX none (s.take i) = s[i - 1]? := by
 unfold QeX
 rw [List.getLast?_take, if_neg (by omega)]
 obtain ⟨y, hy⟩ := JP (show i - 1 < s.length by omega)
 rw [hy]
 simp
open Classical in
theorem QlP {α : Type} {s : List α} {i : Nat} {x y : α} (h0 : 0 < i) (hx : s[i]? = some x) (hy : s[i - 1]? = some y) : dd none (s.take (i + 1)) = dd none (s.take i) ++ (if x = y then [] else [x]) := by
 have hi : i < s.length := (List.getElem?_eq_some_iff.1 hx).1
 rw [List.take_add_one, hx, Option.toList_some, QlQ, QkA h0 (by omega), hy]
 by_cases e : x = y
 ·subst e; simp
 ·rw [if_neg (fun h => e (Zu h).symm), if_neg e]
theorem Qfg {α : Type} {eq : α → α → Bool} (heq : ∀ a b, eq a b = true ↔ a = b) (z : α) (s : List α) (hl : s.length ≤ 4000000000) :
  Ok (Qf7 eq z s) fun r => r.1 ≤ s.length ∧ r.2.length = s.length ∧ r.2.take r.1 = dd none s := by
 unfold Qf7
 by_cases h2 : (s.length : Int) < 2
 ·rw [if_pos (by simpa using h2)]
  refine Ok.ret ⟨Nat.le_refl _, rfl, ?_⟩
  match s, h2 with
  | [], _ => rfl
  | [x], _ => simp [dd]
  | _ :: _ :: _, h2 => simp at h2; omega
 ·rw [if_neg (by simpa using h2)]
  have hlen : 2 ≤ s.length := by omega
  refine Yu (fun k : Int => ∃ n : Nat, k = (n : Int) ∧ 1 ≤ n ∧ n ≤ s.length ∧ dd none (s.take n) = s.take n) (fun _ => dd none s = s) (fun r => r.1 ≤ s.length ∧ r.2.length = s.length ∧ r.2.take r.1 = dd none s) (fun k => s.length - k.toNat) ⟨1, rfl, Nat.le_refl _, by omega, ?_⟩ ?_ (fun r h => Ok.ret h) (fun k h => Ok.ret ⟨Nat.le_refl _, rfl, by rw [List.take_length, h]⟩)
  ·match s, hlen with
   | x :: _, _ => simp [dd]
  ·rintro k ⟨n, rfl, hn1, hn2, hd⟩
   by_cases hlt : (n : Int) < (s.length : Int)
   ·simp only [hlt, decide_true, if_true]
    obtain ⟨x, hx⟩ := JP (show n < s.length by omega)
    obtain ⟨y, hy⟩ := JP (show n - 1 < s.length by omega)
    have hw : IntKind.i64.wrap ((n : Int) - 1) = ((n - 1 : Nat) : Int) := by rw [QD (by omega) (by omega)]; omega
    have hw2 : IntKind.i64.wrap ((n : Int) + 1) = ((n + 1 : Nat) : Int) := by rw [QD (by omega) (by omega)]; omega
    simp only [hw, hw2, Qo, hx, hy, Option.bind_some]
    have hstep := QlP (by omega) hx hy
    by_cases he : eq x y = true
    ·have hxy := (heq x y).1 he
     simp only [he, if_true]
     rw [if_pos hxy, List.append_nil] at hstep
     have hv : Qa3 s (n : Int) (s.length : Int) = some (s.length - n) := by
      unfold Qa3; rw [if_pos (by omega)]; congr 1; omega
     rw [hv]
     simp only [Option.bind_some]
     refine (Yu (fun t : Int × Int × List α => ∃ a b : Nat, t.1 = (a : Int) ∧ t.2.1 = (b : Int) ∧ 1 ≤ b ∧ b ≤ s.length - n ∧ a ≤ n + b - 1 ∧ t.2.2.length = s.length ∧ (dd none (s.take (n + b))).length = a ∧ t.2.2.take a = dd none (s.take (n + b)) ∧ ∀ j, n + b - 1 ≤ j → t.2.2[j]? = s[j]?)
      (fun t => ∃ a : Nat, t.1 = (a : Int) ∧ a ≤ s.length ∧ t.2.2.length = s.length ∧ t.2.2.take a = dd none s) (fun _ => False) (fun t => s.length - t.2.1.toNat) ⟨n, 1, rfl, rfl, Nat.le_refl _, by omega, by omega, rfl, ?_, ?_, fun j _ => rfl⟩ ?_ (fun _ h => h.elim) ?_).mono fun c hc => hc
     ·rw [hstep, hd]; simp; omega
     ·rw [hstep, hd]
     ·rintro ⟨a', b', l⟩ ⟨a, b, e1, e2, hb1, hb2, ha, hll, hdl, ht, hge⟩
      simp only at e1 e2 hll ht hge
      subst e1 e2
      simp only [un3]
      by_cases hbn : (b : Int) < ((s.length - n : Nat) : Int)
      ·simp only [hbn, decide_true, if_true]
       obtain ⟨u, hu⟩ := JP (show n + b < s.length by omega)
       obtain ⟨v, hv⟩ := JP (show n + b - 1 < s.length by omega)
       have hw3 : IntKind.i64.wrap ((b : Int) - 1) = ((b - 1 : Nat) : Int) := by rw [QD (by omega) (by omega)]; omega
       have hw4 : IntKind.i64.wrap ((b : Int) + 1) = ((b + 1 : Nat) : Int) := by rw [QD (by omega) (by omega)]; omega
       have hw5 : IntKind.i64.wrap ((a : Int) + 1) = ((a + 1 : Nat) : Int) := by rw [QD (by omega) (by omega)]; omega
       have i1 : Qdf l (n : Int) (s.length - n) (b : Int) = some u := by
        unfold Qdf; rw [if_pos (by omega), show (n : Int) + (b : Int) = ((n + b : Nat) : Int) by omega, Qo, hge _ (by omega), hu]
       have i2 : Qdf l (n : Int) (s.length - n) ((b - 1 : Nat) : Int) = some v := by
        unfold Qdf; rw [if_pos (by omega), show (n : Int) + ((b - 1 : Nat) : Int) = ((n + b - 1 : Nat) : Int) by omega, Qo, hge _ (by omega), hv]
       have hst := QlP (s := s) (i := n + b) (by omega) hu hv
       simp only [hw3, hw4, hw5, i1, i2, Option.bind_some]
       by_cases huv : eq u v = true
       ·have := (heq u v).1 huv
        rw [if_pos this, List.append_nil] at hst
        simp only [huv, Bool.not_true, Bool.false_eq_true, if_false, Option.bind_some, QI]
        refine ⟨_, rfl, fun s' e => ?_, fun s' e => (by cases e), fun r e => (by cases e)⟩
        cases e
        refine ⟨⟨a, b + 1, rfl, rfl, by omega, by omega, by omega, hll, ?_, ?_, fun j hj => hge j (by omega)⟩, ?_⟩
        ·rw [← Nat.add_assoc, hst]; exact hdl
        ·rw [← Nat.add_assoc, hst]; exact ht
        ·simp only; omega
       ·have hne : u ≠ v := fun e => huv ((heq u v).2 e)
        have huv' : eq u v = false := by simpa using huv
        rw [if_neg hne] at hst
        obtain ⟨d, hdd⟩ := JP (show a < l.length by omega)
        simp only [huv', Bool.not_false, if_true, Option.bind_some, QI, Qo, hdd]
        rw [QW (by omega)]
        simp only [Option.bind_some]
        refine ⟨_, rfl, fun s' e => ?_, fun s' e => (by cases e), fun r e => (by cases e)⟩
        cases e
        refine ⟨⟨a + 1, b + 1, rfl, rfl, by omega, by omega, by omega, by simp [hll], ?_, ?_, fun j hj => ?_⟩, ?_⟩
        ·rw [← Nat.add_assoc, hst, List.length_append, hdl]; rfl
        ·rw [← Nat.add_assoc, hst, ← ht, List.take_add_one, List.getElem?_set_self (by omega), List.take_set_of_le (by omega)]
         rfl
        ·rw [List.getElem?_set_ne (by omega)]; exact hge j (by omega)
        ·simp only; omega
      ·have hbe : n + b = s.length := by omega
       simp only [hbn, decide_false, Bool.false_eq_true, if_false]
       refine ⟨_, rfl, fun s' e => (by cases e), fun s' e => ?_, fun r e => (by cases e)⟩
       cases e
       refine ⟨a, rfl, by omega, hll, ?_⟩
       rw [hbe, List.take_length] at ht
       exact ht
     ·rintro ⟨a', b', l⟩ ⟨a, e1, ha, hll, ht⟩
      simp only at e1 hll ht
      subst e1
      simp only [un3]
      have hv1 : Qa3 l (a : Int) (l.length : Int) = some (l.length - a) := by
       unfold Qa3; rw [if_pos (by omega)]; congr 1; omega
      have hll2 : (l.take ((a : Int)).toNat ++ List.replicate (l.length - a) z ++ l.drop (((a : Int)).toNat + (l.length - a))).length = s.length := by simp; omega
      have hv2 : Qa3 (l.take ((a : Int)).toNat ++ List.replicate (l.length - a) z ++ l.drop (((a : Int)).toNat + (l.length - a))) 0 (a : Int) = some a := by
       unfold Qa3; rw [hll2, if_pos (by omega)]; congr 1
      rw [hv1]
      simp only [Option.bind_some]
      rw [hv2]
      simp only [Option.bind_some]
      refine ⟨_, rfl, fun s' e => (by cases e), fun s' e => (by cases e), fun r e => ?_⟩
      cases e
      refine ⟨ha, hll2, ?_⟩
      rw [List.append_assoc, List.take_append_of_le_length (by simp; omega), List.take_take, ← ht]
      simp
    ·have hne : x ≠ y := fun e => he ((heq x y).2 e)
     have he' : eq x y = false := by simpa using he
     simp only [he', Bool.false_eq_true, if_false]
     rw [if_neg hne, hd] at hstep
     refine ⟨_, rfl, fun s' e => ?_, fun s' e => (by cases e), fun r e => (by cases e)⟩
     cases e
     refine ⟨⟨n + 1, rfl, by omega, by omega, ?_⟩, by omega⟩
     rw [hstep, List.take_add_one, hx]
     rfl
   ·have : n = s.length := by omega
    subst this
    simp only [hlt, decide_false, Bool.false_eq_true, if_false]
    refine ⟨_, rfl, fun s' e => (by cases e), fun s' e => ?_, fun r e => (by cases e)⟩
    rw [List.take_length] at hd
    exact hd
end Go.Pw
/- -/
set_option maxHeartbeats 4000000
namespace Go.Pw
open Classical in
theorem Qoe {α β : Type} (t : α → α → Bool) (ht : ∀ x y, t x y = true ↔ x ≠ y) (xs ys : List α) (hl : xs.length = ys.length) {kr : Bool → Option β} {k : Unit → Option β} :
  ctl (Jf (R := Bool) (fun i => fun (_ : Unit) => (Q9 xs (i : Int)).bind fun x => (Q9 ys (i : Int)).bind fun y => if t x y then some (Ctl.ret false) else some (Ctl.next ())) xs.length 0 ()) kr k = if xs = ys then k () else kr false := by
 rw [QdD (p := fun i => decide (xs[i]? = ys[i]?)) (r := false)]
 ·by_cases h : xs = ys
  ·subst h; simp
  ·rw [if_neg h, if_neg]
   intro hall
   apply h
   apply List.ext_getElem?
   intro i
   by_cases hi : i < xs.length
   ·have := List.all_eq_true.1 hall i (by simpa using hi)
    simpa using this
   ·rw [List.getElem?_eq_none (by omega), List.getElem?_eq_none (by omega)]
 ·intro i hi
  obtain ⟨x, hx⟩ := JP hi
  obtain ⟨y, hy⟩ := JP (show i < ys.length by omega)
  simp only [Qo, hx, hy, Option.bind_some, Option.some.injEq]
  by_cases e : x = y
  ·have : t x y = false := by
    cases ht' : t x y with
    | false => rfl
    | true => exact absurd e ((ht x y).1 ht')
   subst e
   simp [this]
  ·simp [(ht x y).2 e, e]
theorem QnU (xs ys : List Int) : (if !decide ((xs.length : Int) = (ys.length : Int)) then (some false)
 else (ctl (Jf (R := (Bool)) (fun i => fun (_ : Unit) => (Q9 xs (i : Int)).bind fun x => (Q9 ys (i : Int)).bind fun y =>
 if !decide (x = y) then (some (Ctl.ret false)) else (some (Ctl.next ()))) (xs.length) 0 ()) (fun r => some r) (fun (_ : Unit) => some true))) = some (decide (xs = ys)) := by
 by_cases h : xs.length = ys.length
 ·rw [if_neg (by simp [h]), Qoe (fun x y => !decide (x = y)) (by simp) xs ys h]
  by_cases e : xs = ys <;> simp [e]
 ·rw [if_pos (by simp; omega)]
  have : xs ≠ ys := fun e => h (by rw [e])
  simp [this]
def eqL {α : Type} (l : List α) : Rel := fun i j => l[i]? = l[j]?
theorem YV {α : Type} (l : List α) (n : Nat) : Eqv n (eqL l) := ⟨fun _ _ => rfl, fun _ _ _ _ h => Eq.symm h, fun _ _ _ _ _ _ h k => Eq.trans h k⟩
theorem ClsL.eqL {n : Nat} {R : Rel} (h : Eqv n R) {c : List Int} (hc : ClsL R n c) : (∀ i j, i < n → j < n → (R i j ↔ Go.Pw.eqL c i j)) ∧ ClsL (Go.Pw.eqL c) n c := by
 have e : ∀ i j, i < n → j < n → (R i j ↔ Go.Pw.eqL c i j) := fun i j hi hj => (hc.iff h hi hj).symm
 exact ⟨e, hc.congr e⟩
def Qn3 (X : TS) (R : Rel) : Prop := ∀ T, Stable X T → Qiu X.n T R
def IsBis (X : TS) (c : List Int) : Prop := Stable X (eqL c) ∧ Qn3 X (eqL c) ∧ ClsL (eqL c) X.n c
theorem IsBis.uniq {X : TS} {c d : List Int} (hc : IsBis X c) (hd : IsBis X d) : c = d :=
 hc.2.2.uniq (YV c _) (hd.2.2.congr (Stable.uniq hd.1 hc.1 hd.2.1 hc.2.1))
structure BisI (X : TS) (c : List Int) : Prop where
 goal : Qiu X.n (eqL c) (QjY X)
 coarse : Qn3 X (eqL c)
 cls : ClsL (eqL c) X.n c
theorem BisI.next {X : TS} {c d : List Int} (h : BisI X c) (hd : ClsL ((eqL c).and (sig X (eqL c))) X.n d) : BisI X d := by
 have hE : Eqv X.n ((eqL c).and (sig X (eqL c))) := (YV c _).and (QgX (YV c _))
 obtain ⟨e, h2⟩ := hd.eqL hE
 refine ⟨fun i j hi hj k => h.goal i j hi hj ((e i j hi hj).2 k).1, fun T hT i j hi hj k => ?_, h2⟩
 exact (e i j hi hj).1 (hT.keep (h.coarse T hT) i j hi hj k)
theorem QkK {X : TS} {c d : List Int} (hd : ClsL ((eqL c).and (sig X (eqL c))) X.n d) : rnk (eqL c) X.n ≤ rnk (eqL d) X.n := by
 have hE : Eqv X.n ((eqL c).and (sig X (eqL c))) := (YV c _).and (QgX (YV c _))
 obtain ⟨e, h2⟩ := hd.eqL hE
 rw [← Qc0 e (Nat.le_refl _)]
 exact QiJ (YV c _) hE (fun i j hi hj k => k.1) _ (Nat.le_refl _)
theorem BisI.stop {X : TS} {c d : List Int} (h : BisI X c) (hd : ClsL ((eqL c).and (sig X (eqL c))) X.n d) (e : rnk (eqL c) X.n = rnk (eqL d) X.n) : IsBis X d := by
 have hE : Eqv X.n ((eqL c).and (sig X (eqL c))) := (YV c _).and (QgX (YV c _))
 have hn := h.next hd
 obtain ⟨e1, h2⟩ := hd.eqL hE
 have e2 := QnB (YV c X.n) hE (fun i j hi hj k => k.1) (by rw [e, Qc0 e1 (Nat.le_refl _)])
 refine ⟨⟨YV d _, hn.goal, fun i j hi hj k => ?_⟩, hn.coarse, hn.cls⟩
 have k2 := (e1 i j hi hj).2 k
 exact Qke (fun i j hi hj q => (e1 i j hi hj).1 ((e2 i j hi hj).1 q)) i j k2.2
theorem Qph (R : Rel) (n : Nat) : rnk R n ≤ n := rnk_le R n
end Go.Pw
