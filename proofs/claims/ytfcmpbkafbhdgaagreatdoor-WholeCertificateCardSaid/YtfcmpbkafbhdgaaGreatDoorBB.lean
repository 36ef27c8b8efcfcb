/- -/
import Derived.Test.YtfcmpbkafbhdgaaGreatDoorLB
import Derived.Test.YtfcmpbkafbhdgaaGreatDoorLC
import Derived.Test.YtfcmpbkafbhdgaaGreatDoorLE
set_option linter.unusedSimpArgs false
set_option linter.unusedVariables false
namespace Go.Pw
/-! ### loops -/
theorem Qh6 {S : Type} {B : Nat → S → Option S} {n : Nat} (Inv : Nat → S → Prop) (h : ∀ j s, j < n → Inv j s → ∃ s', B j s = some s' ∧ Inv (j + 1) s') :
  ∀ (k i : Nat) (s : S), i + k = n → Inv i s → ∃ s', forS B k i s = some s' ∧ Inv n s'
 | 0, i, s, hn, hi => ⟨s, rfl, by rw [← hn]; exact hi⟩
 | k + 1, i, s, hn, hi => by
  obtain ⟨s', h1, h2⟩ := h i s (by omega) hi
  obtain ⟨t, h3, h4⟩ := Qh6 Inv h k (i + 1) s' (by omega) h2
  exact ⟨t, by simp only [forS, h1, Option.bind_some, h3], h4⟩
theorem Qjy {S : Type} {B : Nat → S → Option S} {n : Nat} {s : S} (Inv : Nat → S → Prop) (h0 : Inv 0 s) (h : ∀ j s, j < n → Inv j s → ∃ s', B j s = some s' ∧ Inv (j + 1) s') :
  ∃ s', forS B n 0 s = some s' ∧ Inv n s' := Qh6 Inv h n 0 s (by omega) h0
def Qjh {S R : Type} (Inv : S → Prop) (Rp : R → Prop) : Ctl S R → Prop
 | .next s => Inv s
 | .brk _ => False
 | .ret r => Rp r
theorem Qh7 {S R : Type} {B : Nat → S → Option (Ctl S R)} {n : Nat} (Inv : Nat → S → Prop) (Rp : R → Prop) (h : ∀ j s, j < n → Inv j s → ∃ c, B j s = some c ∧ Qjh (Inv (j + 1)) Rp c) :
  ∀ (k i : Nat) (s : S), i + k = n → Inv i s → ∃ c, QI B k i s = some c ∧ Qjh (Inv n) Rp c
 | 0, i, s, hn, hi => ⟨.next s, rfl, by rw [← hn]; exact hi⟩
 | k + 1, i, s, hn, hi => by
  obtain ⟨c, h1, h2⟩ := h i s (by omega) hi
  cases c with
  | next s' =>
   obtain ⟨t, h3, h4⟩ := Qh7 Inv Rp h k (i + 1) s' (by omega) h2
   exact ⟨t, by simp only [QI, h1, h3], h4⟩
  | brk s' => exact h2.elim
  | ret r => exact ⟨.ret r, by simp only [QI, h1], h2⟩
theorem Qjz {S R : Type} {B : Nat → S → Option (Ctl S R)} {n : Nat} {s : S} (Inv : Nat → S → Prop) (Rp : R → Prop) (h0 : Inv 0 s) (h : ∀ j s, j < n → Inv j s → ∃ c, B j s = some c ∧ Qjh (Inv (j + 1)) Rp c) :
  ∃ c, QI B n 0 s = some c ∧ Qjh (Inv n) Rp c := Qh7 Inv Rp h n 0 s (by omega) h0
/-! ### lists and matrices -/
theorem Qj {α : Type} {xs : List α} {i : Nat} : QD xs (i : Int) = xs[i]? := by simp [QD]
theorem YR {α : Type} {xs : List α} {i : Nat} {y : α} (h : i < xs.length) : YO xs (i : Int) y = some (xs.set i y) := by simp [YO, h]
/-! ### a small logic for what may fail -/
def Ok {α : Type} (x : Option α) (P : α → Prop) : Prop := ∃ r, x = some r ∧ P r
section
variable {α β S R : Type} {P P' : α → Prop} {x y : Option α}
theorem Ok.ret {a : α} (h : P a) : Ok (some a) P := ⟨a, rfl, h⟩
theorem Ok.bind {Q : β → Prop} {f : α → Option β} (h : Ok x fun a => Ok (f a) Q) : Ok (x.bind f) Q := by
 obtain ⟨a, e, r, e2, h2⟩ := h
 exact ⟨r, by rw [e]; exact e2, h2⟩
theorem Ok.step {Q : β → Prop} {f : α → Option β} {a : α} (e : x = some a) (h : Ok (f a) Q) : Ok (x.bind f) Q := Ok.bind ⟨a, e, h⟩
theorem Ok.mono (h : Ok x P) (k : ∀ a, P a → P' a) : Ok x P' := let ⟨a, e, h⟩ := h; ⟨a, e, k a h⟩
theorem Ok.must {Q : β → Prop} {b : Bool} {f : Unit → Option β} (hb : b = true) (h : Ok (f ()) Q) : Ok ((Go.Pw.must b).bind f) Q := Ok.step (by simp [Go.Pw.must, hb]) h
theorem J5 {B : Nat → S → Option S} {n : Nat} {s : S} {Q : S → Prop} (Inv : Nat → S → Prop) (h0 : Inv 0 s) (h : ∀ j s, j < n → Inv j s → Ok (B j s) (Inv (j + 1))) (k : ∀ s, Inv n s → Q s) : Ok (forS B n 0 s) Q :=
 let ⟨s', h1, h2⟩ := Qjy Inv h0 h
 ⟨s', h1, k s' h2⟩
theorem Ok.ctl {B : Nat → S → Option (Ctl S R)} {n : Nat} {s : S} {Q : β → Prop} {kr : R → Option β} {ks : S → Option β} (Inv : Nat → S → Prop) (Rp : R → Prop) (h0 : Inv 0 s)
  (h : ∀ j s, j < n → Inv j s → Ok (B j s) (Qjh (Inv (j + 1)) Rp)) (hr : ∀ r, Rp r → Ok (kr r) Q) (hn : ∀ s, Inv n s → Ok (ks s) Q) : Ok (ctl (QI B n 0 s) kr ks) Q := by
 obtain ⟨c, h1, h2⟩ := Qjz Inv Rp h0 h
 unfold Go.Pw.ctl
 rw [h1]
 cases c with
 | next s => exact hn s h2
 | brk s => exact h2.elim
 | ret r => exact hr r h2
end
theorem QcQ {R : Type} {B : Nat → Unit → Option (Ctl Unit R)} {r : R} {p : Nat → Bool} : ∀ (k i : Nat), (∀ j, i ≤ j → j < i + k → B j () = some (if p j then .next () else .ret r)) → QI B k i () = some (if (List.range' i k).all p then .next () else .ret r)
 | 0, i, _ => by simp [QI]
 | k + 1, i, h => by
  have h0 := h i (Nat.le_refl _) (by omega)
  simp only [QI, h0, List.range'_succ, List.all_cons]
  cases hp : p i with
  | true => simp only [if_true, Bool.true_and]; exact QcQ k (i + 1) fun j h1 h2 => h j (by omega) (by omega)
  | false => simp
theorem Qk1 {R : Type} {B : Nat → Unit → Option (Ctl Unit R)} {r : R} {p : Nat → Bool} {n : Nat} (h : ∀ j, j < n → B j () = some (if p j then .next () else .ret r)) : QI B n 0 () = some (if (List.range n).all p then .next () else .ret r) := by
 rw [QcQ n 0 (fun j _ hj => h j (by omega)), List.range_eq_range']
theorem QgW {R β : Type} {B : Nat → Unit → Option (Ctl Unit R)} {r : R} {p : Nat → Bool} {n : Nat} {kr : R → Option β} {k : Unit → Option β} (h : ∀ j, j < n → B j () = some (if p j then .next () else .ret r)) : ctl (QI B n 0 ()) kr k = if (List.range n).all p then k () else kr r := by
 rw [Qk1 h]
 unfold ctl
 split <;> rfl
theorem Qjj {S R : Type} {B : S → Option (Ctl S R)} (Inv : S → Prop) (Bp : S → Prop) (Rp : R → Prop) (μ : S → Nat) (h : ∀ s, Inv s → ∃ c, B s = some c ∧ (∀ s', c = .next s' → Inv s' ∧ μ s' < μ s) ∧ (∀ s', c = .brk s' → Bp s') ∧ (∀ r, c = .ret r → Rp r)) :
  ∀ (m : Nat) (s : S), μ s ≤ m → Inv s → ∃ c, J7 B s = some c ∧ (∀ s', c ≠ .next s') ∧ (∀ s', c = .brk s' → Bp s') ∧ (∀ r, c = .ret r → Rp r) := by
 intro m
 induction m with
 | zero =>
  intro s hm hi
  obtain ⟨c, h1, h2, h3, h4⟩ := h s hi
  have hn : ∀ s', c ≠ .next s' := fun s' e => by have := (h2 s' e).2; omega
  exact ⟨c, Qe0 h1 hn, hn, h3, h4⟩
 | succ m ih =>
  intro s hm hi
  obtain ⟨c, h1, h2, h3, h4⟩ := h s hi
  by_cases hn : ∃ s', c = .next s'
  ·obtain ⟨s', rfl⟩ := hn
   obtain ⟨hi', hlt⟩ := h2 s' rfl
   rw [QhM h1]
   exact ih s' (by omega) hi'
  ·have hn' : ∀ s', c ≠ .next s' := fun s' e => hn ⟨s', e⟩
   exact ⟨c, Qe0 h1 hn', hn', h3, h4⟩
theorem QdC {S R β : Type} {B : S → Option (Ctl S R)} {s : S} {Q : β → Prop} {kr : R → Option β} {k : S → Option β} (Inv : S → Prop) (Bp : S → Prop) (Rp : R → Prop) (μ : S → Nat) (h0 : Inv s)
  (h : ∀ s, Inv s → ∃ c, B s = some c ∧ (∀ s', c = .next s' → Inv s' ∧ μ s' < μ s) ∧ (∀ s', c = .brk s' → Bp s') ∧ (∀ r, c = .ret r → Rp r))
  (hr : ∀ r, Rp r → Ok (kr r) Q) (hb : ∀ s, Bp s → Ok (k s) Q) : Ok (Go.Pw.ctl (J7 B s) kr k) Q := by
 obtain ⟨c, h1, h2, h3, h4⟩ := Qjj Inv Bp Rp μ h (μ s) s (Nat.le_refl _) h0
 unfold Go.Pw.ctl
 rw [h1]
 cases c with
 | next s' => exact absurd rfl (h2 s')
 | brk s' => exact hb s' (h3 s' rfl)
 | ret r => exact hr r (h4 r rfl)
theorem Ok.eq {α : Type} {x : Option α} {a : α} (h : Ok x fun r => r = a) : x = some a := let ⟨r, h1, h2⟩ := h; by rw [h1, h2]
theorem QiB {α : Type} {x : Option α} {a : α} {P : α → Prop} (h : x = some a) (k : P a) : Ok x P := ⟨a, h, k⟩
theorem K4 {α : Type} {b : Nat} {xs ys : List α} (h : (xs.length + ys.length) * b ≤ 140737488355328) : app b xs ys = some (xs ++ ys) := by unfold app; rw [if_pos h]
theorem Qlv {α : Type} {b : Nat} {z : α} {n : Nat} (h : b * n ≤ 281474976710656) (hn : n ≤ 9223372036854775807) : mk b z (n : Int) = some (List.replicate n z) := by
 unfold mk; rw [if_pos ⟨by omega, by simpa using h, by omega⟩]; simp
theorem Q1 {n : Int} (h0 : -9223372036854775808 ≤ n) (h1 : n ≤ 9223372036854775807) : IntKind.i64.wrap n = n := wrap_i64 h0 h1
end Go.Pw
/- -/
set_option maxHeartbeats 4000000
namespace Go.Pw
abbrev Inf : Int := 1125899906842624
abbrev QgH := Nat → Nat → Int → Prop
inductive Reach (A : QgH) (src : Nat → Prop) : Nat → Int → Prop
 | base {i : Nat} : src i → Reach A src i 0
 | step {v u : Nat} {c w : Int} : Reach A src v c → A v u w → Reach A src u (c + w)
structure AOK (A : QgH) (src : Nat → Prop) (n : Nat) : Prop where
 a : ∀ v u w, A v u w → v < n ∧ u < n ∧ 0 ≤ w ∧ w ≤ 1048576
 s : ∀ i, src i → i < n
structure Dst (A : QgH) (src : Nat → Prop) (n : Nat) (l : List Int) : Prop where
 len : l.length = n
 rng : ∀ (i : Nat) (x : Int), l[i]? = some x → 0 ≤ x ∧ x ≤ Inf
 s0 : ∀ (i : Nat), src i → l[i]? = some 0
 re : ∀ (i : Nat) (x : Int), l[i]? = some x → x < Inf → Reach A src i x
def QkS (A : QgH) (l : List Int) (v : Nat) : Prop := ∀ (u : Nat) (w x y : Int), A v u w → l[v]? = some x → l[u]? = some y → x < Inf → y ≤ x + w
structure SP (A : QgH) (src : Nat → Prop) (n : Nat) (l : List Int) : Prop extends Dst A src n l where
 cl : ∀ v, QkS A l v
section
variable {A : QgH} {src : Nat → Prop} {n : Nat} {l k : List Int}
theorem Reach.pos (hA : AOK A src n) {i : Nat} {c : Int} (h : Reach A src i c) : 0 ≤ c := by
 induction h with
 | base _ => exact Int.le_refl _
 | step _ h ih => have := (hA.a _ _ _ h).2.2.1; omega
theorem SP.le (hA : AOK A src n) (h : SP A src n l) {i : Nat} {c : Int} (hr : Reach A src i c) : c < Inf → ∃ y, l[i]? = some y ∧ y ≤ c := by
 induction hr with
 | base hs => exact fun _ => ⟨0, h.s0 _ hs, Int.le_refl _⟩
 | @step v u c w hr ha ih =>
  intro hc
  obtain ⟨_, hu, hw, _⟩ := hA.a _ _ _ ha
  have := hr.pos hA
  obtain ⟨x, hx, hxc⟩ := ih (by omega)
  obtain ⟨y, hy⟩ : ∃ y, l[u]? = some y := ⟨l[u]'(by rw [h.len]; exact hu), by simp [h.len, hu]⟩
  have := h.cl v u w x y ha hx hy (by omega)
  exact ⟨y, hy, by omega⟩
theorem SP.uniq (hA : AOK A src n) (h : SP A src n l) (h' : SP A src n k) : l = k := by
 apply List.ext_getElem?
 intro i
 by_cases hi : i < n
 ·obtain ⟨x, hx⟩ : ∃ x, l[i]? = some x := ⟨l[i]'(by rw [h.len]; exact hi), by simp [h.len, hi]⟩
  obtain ⟨y, hy⟩ : ∃ y, k[i]? = some y := ⟨k[i]'(by rw [h'.len]; exact hi), by simp [h'.len, hi]⟩
  have r1 := h.rng i x hx
  have r2 := h'.rng i y hy
  have h1 : x < Inf → y ≤ x := by
   intro hlt
   obtain ⟨y', hy', hle⟩ := h'.le hA (h.re i x hx hlt) hlt
   rw [hy] at hy'; cases hy'; exact hle
  have h2 : y < Inf → x ≤ y := by
   intro hlt
   obtain ⟨x', hx', hle⟩ := h.le hA (h'.re i y hy hlt) hlt
   rw [hx] at hx'; cases hx'; exact hle
  rw [hx, hy]
  have : x = y := by
   by_cases a : x < Inf
   ·have := h1 a; have := h2 (by omega); omega
   ·by_cases b : y < Inf
    ·have := h2 b; omega
    ·omega
  rw [this]
 ·rw [List.getElem?_eq_none (by rw [h.len]; omega), List.getElem?_eq_none (by rw [h'.len]; omega)]
theorem Dst.set (hA : AOK A src n) (h : Dst A src n l) {v u : Nat} {w x y : Int} (ha : A v u w) (hx : l[v]? = some x) (hy : l[u]? = some y) (hlt : x + w < y) : Dst A src n (l.set u (x + w)) := by
 obtain ⟨_, hu, hw, _⟩ := hA.a _ _ _ ha
 have rx := h.rng v x hx
 have ry := h.rng u y hy
 have hul : u < l.length := by rw [h.len]; exact hu
 refine ⟨by simp [h.len], fun i z hz => ?_, fun i hi => ?_, fun i z hz hzi => ?_⟩
 ·by_cases e : u = i
  ·subst e
   rw [List.getElem?_set_self hul] at hz
   cases hz; omega
  ·rw [List.getElem?_set_ne e] at hz; exact h.rng i z hz
 ·by_cases e : u = i
  ·subst e
   have := h.s0 u hi
   rw [hy] at this; cases this; omega
  ·rw [List.getElem?_set_ne e]; exact h.s0 i hi
 ·by_cases e : u = i
  ·subst e
   rw [List.getElem?_set_self hul] at hz
   cases hz
   exact .step (h.re v x hx (by omega)) ha
  ·rw [List.getElem?_set_ne e] at hz; exact h.re i z hz hzi
end
def tot (l : List Int) : Nat := (l.map Int.toNat).sum
theorem QiE : ∀ {l : List Int} {u : Nat} {y z : Int}, l[u]? = some y → 0 ≤ z → z < y → tot (l.set u z) < tot l
 | [], u, y, z, h, _, _ => by simp at h
 | a :: l, 0, y, z, h, h0, h1 => by
  simp only [List.getElem?_cons_zero, Option.some.injEq] at h
  subst h
  simp only [tot, List.set_cons_zero, List.map_cons, List.sum_cons]
  omega
 | a :: l, u + 1, y, z, h, h0, h1 => by
  have := QiE (l := l) (u := u) (y := y) (z := z) (by simpa using h) h0 h1
  simp only [tot, List.set_cons_succ, List.map_cons, List.sum_cons] at *
  omega
theorem nodup_short' : ∀ {n : Nat} {L : List Nat}, L.Nodup → (∀ x ∈ L, x < n) → L.length ≤ n
 | 0, L, _, h => by
  cases L with
  | nil => simp
  | cons a L => have := h a (by simp); omega
 | n + 1, L, hn, h => by
  have h1 : (L.filter fun x => decide (x ≠ n)).length ≤ n := nodup_short' (hn.sublist List.filter_sublist) (by
   intro x hx
   simp only [List.mem_filter, decide_eq_true_eq] at hx
   have := h x hx.1
   omega)
  have h2 : L.length ≤ (L.filter fun x => decide (x ≠ n)).length + 1 := by
   clear h h1
   induction L with
   | nil => simp
   | cons a L ih =>
    obtain ⟨ha, hL⟩ := List.nodup_cons.1 hn
    by_cases e : a = n
    ·subst e
     have : (L.filter fun x => decide (x ≠ a)) = L := by
      apply List.filter_eq_self.2
      intro x hx
      simp only [decide_eq_true_eq]
      rintro rfl; exact ha hx
     have e2 : ((a :: L).filter fun x => decide (x ≠ a)) = L.filter fun x => decide (x ≠ a) := by rw [List.filter_cons]; simp
     rw [e2, this]; simp
    ·have := ih hL
     simp only [List.filter_cons, ne_eq, e, not_false_eq_true, decide_true, if_true, List.length_cons] at *
     omega
  omega
end Go.Pw
/- -/
set_option maxHeartbeats 4000000
namespace Go.Pw
theorem Qbz {α : Type} {xs : List α} {i : Nat} (h : i < xs.length) : ∃ y, xs[i]? = some y := ⟨xs[i], by simp [h]⟩
noncomputable def Qfs {α : Type} (eq : α → α → Bool) (z : α) (s : List α) : Option (Nat × (List α)) :=
 if decide ((s.length : Int) < 2) then (some ((s).length, s))
 else (ctl (J7 (R := (Nat × (List α))) (fun (k : Int) => if decide (k < (s.length : Int)) then ((QD s k).bind fun x =>
 (QD s (IntKind.i64.wrap (k - 1))).bind fun y =>
 if eq x y then ((Yy s k (s.length : Int)).bind fun n =>
 ctl (J7 (R := (Nat × (List α))) (K3 fun (k9 : Int) (k2 : Int) (l : (List α)) => if decide (k2 < (n : Int)) then ((QeE l k n k2).bind fun a =>
 (QeE l k n (IntKind.i64.wrap (k2 - 1))).bind fun b =>
 (if !(eq a b) then ((QeE l k n k2).bind fun c =>
 (QD l k9).bind fun d =>
 (YO l k9 c).bind fun l' =>
 some (IntKind.i64.wrap (k9 + 1), l'))
 else (some (k9, l))).bind (QK fun (k9 : Int) (l : (List α)) => some (Ctl.next (k9, IntKind.i64.wrap (k2 + 1), l))))
 else (some (Ctl.brk (k9, k2, l)))) (k, 1, s)) (fun r => some (Ctl.ret r)) (K3 fun (k9 : Int) (k2 : Int) (l : (List α)) => (Yy l k9 (l.length : Int)).bind fun n1 =>
 (Yy ((l).take (k9).toNat ++ List.replicate n1 z ++ (l).drop ((k9).toNat + n1)) 0 k9).bind fun n2 =>
 some (Ctl.ret (n2, (l).take (k9).toNat ++ List.replicate n1 z ++ (l).drop ((k9).toNat + n1)))))
 else (some (Ctl.next (IntKind.i64.wrap (k + 1)))))
 else (some (Ctl.brk k))) 1) (fun r => some r) (fun (k : Int) => some ((s).length, s)))
open Classical in
noncomputable def dd {α : Type} : Option α → List α → List α
 | _, [] => []
 | p, x :: r => if p = some x then dd (some x) r else x :: dd (some x) r
def Qdd {α : Type} (p : Option α) (l : List α) : Option α := match l.getLast? with | some x => some x | none => p
open Classical in
theorem QiV {α : Type} (x : α) : ∀ (l : List α) (p : Option α), dd p (l ++ [x]) = dd p l ++ (if Qdd p l = some x then [] else [x])
 | [], p => by by_cases h : p = some x <;> simp [dd, Qdd, h]
 | y :: l, p => by
  have ih := QiV x l (some y)
  have e : Qdd p (y :: l) = Qdd (some y) l := by cases l <;> simp [Qdd, List.getLast?_cons]
  rw [e]
  simp only [List.cons_append, dd]
  by_cases h : p = some y
  ·rw [if_pos h, if_pos h, ih]
  ·rw [if_neg h, if_neg h, ih]; rfl
theorem QjV {α : Type} : ∀ (l : List α) (p : Option α), (dd p l).length ≤ l.length
 | [], p => by simp [dd]
 | y :: l, p => by
  have ih := QjV l (some y)
  simp only [dd]
  split <;> simp <;> omega
theorem QjT {α : Type} : ∀ (l : List α) (p : Option α), (dd p l).Sublist l
 | [], p => by simp [dd]
 | y :: l, p => by
  have ih := QjT l (some y)
  simp only [dd]
  split
  ·exact ih.cons _
  ·exact ih.cons_cons _
theorem QjU {α : Type} {x : α} : ∀ (l : List α) (p : Option α), x ∈ l → x ∈ dd p l ∨ p = some x
 | [], p, h => by simp at h
 | y :: l, p, h => by
  simp only [dd]
  rcases List.mem_cons.1 h with rfl | h
  ·by_cases hp : p = some x
   ·exact .inr hp
   ·rw [if_neg hp]; exact .inl (by simp)
  ·rcases QjU l (some y) h with h1 | h1
   ·left; split
    ·exact h1
    ·exact List.mem_cons_of_mem _ h1
   ·cases h1
    by_cases hp : p = some x
    ·exact .inr hp
    ·rw [if_neg hp]; exact .inl (by simp)
theorem QlQ {α : Type} {x : α} (l : List α) : x ∈ dd none l ↔ x ∈ l := ⟨fun h => (QjT l none).subset h, fun h => (QjU l none h).resolve_right (by simp)⟩
theorem Qg8 {α : Type} {le lt : α → α → Prop} (h : ∀ a b, le a b → a ≠ b → lt a b) (tr : ∀ a b c, le a b → lt b c → lt a c) (tr2 : ∀ a b c, le a b → le b c → le a c) : ∀ (l : List α) (p : Option α), l.Pairwise le → (∀ q, p = some q → ∀ x ∈ l, le q x) → (dd p l).Pairwise lt ∧ ∀ q, p = some q → ∀ x ∈ dd p l, lt q x
 | [], p, _, _ => by simp [dd]
 | y :: l, p, hs, hp => by
  obtain ⟨h1, h2⟩ := List.pairwise_cons.1 hs
  obtain ⟨i1, i2⟩ := Qg8 h tr tr2 l (some y) h2 fun q hq x hx => by cases hq; exact h1 x hx
  simp only [dd]
  by_cases e : p = some y
  ·rw [if_pos e]
   exact ⟨i1, fun q hq x hx => by rw [e] at hq; cases hq; exact i2 y rfl x hx⟩
  ·rw [if_neg e]
   refine ⟨List.pairwise_cons.2 ⟨i2 y rfl, i1⟩, fun q hq x hx => ?_⟩
   have hqy : le q y := hp q hq y (by simp)
   rcases List.mem_cons.1 hx with rfl | hx
   ·exact h q x hqy fun e2 => e (by rw [hq, e2])
   ·exact tr q y x hqy (i2 y rfl x hx)
theorem QhQ {α : Type} {s : List α} {i : Nat} (h0 : 0 < i) (h : i ≤ s.length) : Qdd none (s.take i) = s[i - 1]? := by
 unfold Qdd
 rw [List.getLast?_take, if_neg (by omega)]
 obtain ⟨y, hy⟩ := Qbz (show i - 1 < s.length by omega)
 rw [hy]
 simp
open Classical in
theorem QiU {α : Type} {s : List α} {i : Nat} {x y : α} (h0 : 0 < i) (hx : s[i]? = some x) (hy : s[i - 1]? = some y) : dd none (s.take (i + 1)) = dd none (s.take i) ++ (if x = y then [] else [x]) := by
 have hi : i < s.length := (List.getElem?_eq_some_iff.1 hx).1
 rw [List.take_add_one, hx, Option.toList_some, QiV, QhQ h0 (by omega), hy]
 by_cases e : x = y
 ·subst e; simp
 ·rw [if_neg (fun h => e (Zu h).symm), if_neg e]
theorem Qi1 {α : Type} {eq : α → α → Bool} (heq : ∀ a b, eq a b = true ↔ a = b) (z : α) (s : List α) (hl : s.length ≤ 4000000000) :
  Ok (Qfs eq z s) fun r => r.1 ≤ s.length ∧ r.2.length = s.length ∧ r.2.take r.1 = dd none s := by
 unfold Qfs
 by_cases h2 : (s.length : Int) < 2
 ·rw [if_pos (by simpa using h2)]
  refine Ok.ret ⟨Nat.le_refl _, rfl, ?_⟩
  match s, h2 with
  | [], _ => rfl
  | [x], _ => simp [dd]
  | _ :: _ :: _, h2 => simp at h2; omega
 ·rw [if_neg (by simpa using h2)]
  have hlen : 2 ≤ s.length := by omega
  refine QdC (fun k : Int => ∃ n : Nat, k = (n : Int) ∧ 1 ≤ n ∧ n ≤ s.length ∧ dd none (s.take n) = s.take n) (fun _ => dd none s = s) (fun r => r.1 ≤ s.length ∧ r.2.length = s.length ∧ r.2.take r.1 = dd none s) (fun k => s.length - k.toNat) ⟨1, rfl, Nat.le_refl _, by omega, ?_⟩ ?_ (fun r h => Ok.ret h) (fun k h => Ok.ret ⟨Nat.le_refl _, rfl, by rw [List.take_length, h]⟩)
  ·match s, hlen with
   | x :: _, _ => simp [dd]
  ·rintro k ⟨n, rfl, hn1, hn2, hd⟩
   by_cases hlt : (n : Int) < (s.length : Int)
   ·simp only [hlt, decide_true, if_true]
    obtain ⟨x, hx⟩ := Qbz (show n < s.length by omega)
    obtain ⟨y, hy⟩ := Qbz (show n - 1 < s.length by omega)
    have hw : IntKind.i64.wrap ((n : Int) - 1) = ((n - 1 : Nat) : Int) := by rw [Q1 (by omega) (by omega)]; omega
    have hw2 : IntKind.i64.wrap ((n : Int) + 1) = ((n + 1 : Nat) : Int) := by rw [Q1 (by omega) (by omega)]; omega
    simp only [hw, hw2, Qj, hx, hy, Option.bind_some]
    have hstep := QiU (by omega) hx hy
    by_cases he : eq x y = true
    ·have hxy := (heq x y).1 he
     simp only [he, if_true]
     rw [if_pos hxy, List.append_nil] at hstep
     have hv : Yy s (n : Int) (s.length : Int) = some (s.length - n) := by
      unfold Yy; rw [if_pos (by omega)]; congr 1; omega
     rw [hv]
     simp only [Option.bind_some]
     refine (QdC (fun t : Int × Int × List α => ∃ a b : Nat, t.1 = (a : Int) ∧ t.2.1 = (b : Int) ∧ 1 ≤ b ∧ b ≤ s.length - n ∧ a ≤ n + b - 1 ∧ t.2.2.length = s.length ∧ (dd none (s.take (n + b))).length = a ∧ t.2.2.take a = dd none (s.take (n + b)) ∧ ∀ j, n + b - 1 ≤ j → t.2.2[j]? = s[j]?)
      (fun t => ∃ a : Nat, t.1 = (a : Int) ∧ a ≤ s.length ∧ t.2.2.length = s.length ∧ t.2.2.take a = dd none s) (fun _ => False) (fun t => s.length - t.2.1.toNat) ⟨n, 1, rfl, rfl, Nat.le_refl _, by omega, by omega, rfl, ?_, ?_, fun j _ => rfl⟩ ?_ (fun _ h => h.elim) ?_).mono fun c hc => hc
     ·rw [hstep, hd]; simp; omega
     ·rw [hstep, hd]
     ·rintro ⟨a', b', l⟩ ⟨a, b, e1, e2, hb1, hb2, ha, hll, Yn, ht, hge⟩
      simp only at e1 e2 hll ht hge
      subst e1 e2
      simp only [K3]
      by_cases hbn : (b : Int) < ((s.length - n : Nat) : Int)
      ·simp only [hbn, decide_true, if_true]
       obtain ⟨u, hu⟩ := Qbz (show n + b < s.length by omega)
       obtain ⟨v, hv⟩ := Qbz (show n + b - 1 < s.length by omega)
       have hw3 : IntKind.i64.wrap ((b : Int) - 1) = ((b - 1 : Nat) : Int) := by rw [Q1 (by omega) (by omega)]; omega
       have hw4 : IntKind.i64.wrap ((b : Int) + 1) = ((b + 1 : Nat) : Int) := by rw [Q1 (by omega) (by omega)]; omega
       have hw5 : IntKind.i64.wrap ((a : Int) + 1) = ((a + 1 : Nat) : Int) := by rw [Q1 (by omega) (by omega)]; omega
       have i1 : QeE l (n : Int) (s.length - n) (b : Int) = some u := by
        unfold QeE; rw [if_pos (by omega), show (n : Int) + (b : Int) = ((n + b : Nat) : Int) by omega, Qj, hge _ (by omega), hu]
       have i2 : QeE l (n : Int) (s.length - n) ((b - 1 : Nat) : Int) = some v := by
        unfold QeE; rw [if_pos (by omega), show (n : Int) + ((b - 1 : Nat) : Int) = ((n + b - 1 : Nat) : Int) by omega, Qj, hge _ (by omega), hv]
       have hst := QiU (s := s) (i := n + b) (by omega) hu hv
       simp only [hw3, hw4, hw5, i1, i2, Option.bind_some]
       by_cases huv : eq u v = true
       ·have := (heq u v).1 huv
        rw [if_pos this, List.append_nil] at hst
        simp only [huv, Bool.not_true, Bool.false_eq_true, if_false, Option.bind_some, QK]
        refine ⟨_, rfl, fun s' e => ?_, fun s' e => (by cases e), fun r e => (by cases e)⟩
        cases e
        refine ⟨⟨a, b + 1, rfl, rfl, by omega, by omega, by omega, hll, ?_, ?_, fun j hj => hge j (by omega)⟩, ?_⟩
        ·rw [← Nat.add_assoc, hst]; exact Yn
        ·rw [← Nat.add_assoc, hst]; exact ht
        ·simp only; omega
       ·have hne : u ≠ v := fun e => huv ((heq u v).2 e)
        have huv' : eq u v = false := by simpa using huv
        rw [if_neg hne] at hst
        obtain ⟨d, hdd⟩ := Qbz (show a < l.length by omega)
        simp only [huv', Bool.not_false, if_true, Option.bind_some, QK, Qj, hdd]
        rw [YR (by omega)]
        simp only [Option.bind_some]
        refine ⟨_, rfl, fun s' e => ?_, fun s' e => (by cases e), fun r e => (by cases e)⟩
        cases e
        refine ⟨⟨a + 1, b + 1, rfl, rfl, by omega, by omega, by omega, by simp [hll], ?_, ?_, fun j hj => ?_⟩, ?_⟩
        ·rw [← Nat.add_assoc, hst, List.length_append, Yn]; rfl
        ·rw [← Nat.add_assoc, hst, ← ht, List.take_add_one, List.getElem?_set_self (by omega), List.take_set_of_le (by omega)]
         rfl
        ·rw [List.getElem?_set_ne (by omega)]; exact hge j (by omega)
        ·simp only; omega
      ·have hbe : n + b = s.length := by omega
       simp only [hbn, decide_false, Bool.false_eq_true, if_false]
       refine ⟨_, rfl, fun s' e => (by cases e), fun s' e => ?_, fun r e => (by cases e)⟩
       cases e
       refine ⟨a, rfl, by omega, hll, ?_⟩
       rw [hbe, List.take_length] at ht
       exact ht
     ·rintro ⟨a', b', l⟩ ⟨a, e1, ha, hll, ht⟩
      simp only at e1 hll ht
      subst e1
      simp only [K3]
      have hv1 : Yy l (a : Int) (l.length : Int) = some (l.length - a) := by
       unfold Yy; rw [if_pos (by omega)]; congr 1; omega
      have hll2 : (l.take ((a : Int)).toNat ++ List.replicate (l.length - a) z ++ l.drop (((a : Int)).toNat + (l.length - a))).length = s.length := by simp; omega
      have hv2 : Yy (l.take ((a : Int)).toNat ++ List.replicate (l.length - a) z ++ l.drop (((a : Int)).toNat + (l.length - a))) 0 (a : Int) = some a := by
       unfold Yy; rw [hll2, if_pos (by omega)]; congr 1
      rw [hv1]
      simp only [Option.bind_some]
      rw [hv2]
      simp only [Option.bind_some]
      refine ⟨_, rfl, fun s' e => (by cases e), fun s' e => (by cases e), fun r e => ?_⟩
      cases e
      refine ⟨ha, hll2, ?_⟩
      rw [List.append_assoc, List.take_append_of_le_length (by simp; omega), List.take_take, ← ht]
      simp
    ·have hne : x ≠ y := fun e => he ((heq x y).2 e)
     have he' : eq x y = false := by simpa using he
     simp only [he', Bool.false_eq_true, if_false]
     rw [if_neg hne, hd] at hstep
     refine ⟨_, rfl, fun s' e => ?_, fun s' e => (by cases e), fun r e => (by cases e)⟩
     cases e
     refine ⟨⟨n + 1, rfl, by omega, by omega, ?_⟩, by omega⟩
     rw [hstep, List.take_add_one, hx]
     rfl
   ·have : n = s.length := by omega
    subst this
    simp only [hlt, decide_false, Bool.false_eq_true, if_false]
    refine ⟨_, rfl, fun s' e => (by cases e), fun s' e => ?_, fun r e => (by cases e)⟩
    rw [List.take_length] at hd
    exact hd
end Go.Pw
