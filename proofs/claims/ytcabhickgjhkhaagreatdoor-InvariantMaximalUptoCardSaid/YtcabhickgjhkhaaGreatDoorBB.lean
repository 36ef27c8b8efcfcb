/-
  Plain Lean: a small logic for loops and for what may fail; shortest paths by what they satisfy. No program in sight.
-/
import Derived.Test.YtcabhickgjhkhaaGreatDoorL6
import Derived.Test.YtcabhickgjhkhaaGreatDoorL11
set_option linter.unusedSimpArgs false
set_option linter.unusedVariables false
namespace Go.Pw
/-! ### loops -/
theorem forS_inv {S : Type} {B : Nat → S → Option S} {n : Nat} (Inv : Nat → S → Prop) (h : ∀ j s, j < n → Inv j s → ∃ s', B j s = some s' ∧ Inv (j + 1) s') :
    ∀ (k i : Nat) (s : S), i + k = n → Inv i s → ∃ s', forS B k i s = some s' ∧ Inv n s'
  | 0, i, s, hn, hi => ⟨s, rfl, by rw [← hn]; exact hi⟩
  | k + 1, i, s, hn, hi => by
    obtain ⟨s', h1, h2⟩ := h i s (by omega) hi
    obtain ⟨t, h3, h4⟩ := forS_inv Inv h k (i + 1) s' (by omega) h2
    exact ⟨t, by simp only [forS, h1, Option.bind_some, h3], h4⟩
theorem forS_inv0 {S : Type} {B : Nat → S → Option S} {n : Nat} {s : S} (Inv : Nat → S → Prop) (h0 : Inv 0 s) (h : ∀ j s, j < n → Inv j s → ∃ s', B j s = some s' ∧ Inv (j + 1) s') :
    ∃ s', forS B n 0 s = some s' ∧ Inv n s' := forS_inv Inv h n 0 s (by omega) h0
/-- How a loop with ways out ends. -/
def CtlP {S R : Type} (Inv : S → Prop) (Rp : R → Prop) : Ctl S R → Prop
  | .next s => Inv s
  | .brk _ => False
  | .ret r => Rp r
theorem forC_inv {S R : Type} {B : Nat → S → Option (Ctl S R)} {n : Nat} (Inv : Nat → S → Prop) (Rp : R → Prop) (h : ∀ j s, j < n → Inv j s → ∃ c, B j s = some c ∧ CtlP (Inv (j + 1)) Rp c) :
    ∀ (k i : Nat) (s : S), i + k = n → Inv i s → ∃ c, forC B k i s = some c ∧ CtlP (Inv n) Rp c
  | 0, i, s, hn, hi => ⟨.next s, rfl, by rw [← hn]; exact hi⟩
  | k + 1, i, s, hn, hi => by
    obtain ⟨c, h1, h2⟩ := h i s (by omega) hi
    cases c with
    | next s' =>
      obtain ⟨t, h3, h4⟩ := forC_inv Inv Rp h k (i + 1) s' (by omega) h2
      exact ⟨t, by simp only [forC, h1, h3], h4⟩
    | brk s' => exact h2.elim
    | ret r => exact ⟨.ret r, by simp only [forC, h1], h2⟩
theorem forC_inv0 {S R : Type} {B : Nat → S → Option (Ctl S R)} {n : Nat} {s : S} (Inv : Nat → S → Prop) (Rp : R → Prop) (h0 : Inv 0 s) (h : ∀ j s, j < n → Inv j s → ∃ c, B j s = some c ∧ CtlP (Inv (j + 1)) Rp c) :
    ∃ c, forC B n 0 s = some c ∧ CtlP (Inv n) Rp c := forC_inv Inv Rp h n 0 s (by omega) h0
/-! ### lists and matrices -/
theorem idx_nat {α : Type} {xs : List α} {i : Nat} : idx xs (i : Int) = xs[i]? := by simp [idx]
theorem setI_nat {α : Type} {xs : List α} {i : Nat} {y : α} (h : i < xs.length) : setI xs (i : Int) y = some (xs.set i y) := by simp [setI, h]
/-! ### a small logic for what may fail -/
def Ok {α : Type} (x : Option α) (P : α → Prop) : Prop := ∃ r, x = some r ∧ P r
section
variable {α β S R : Type} {P P' : α → Prop} {x y : Option α}
theorem Ok.ret {a : α} (h : P a) : Ok (some a) P := ⟨a, rfl, h⟩
theorem Ok.bind {Q : β → Prop} {f : α → Option β} (h : Ok x fun a => Ok (f a) Q) : Ok (x.bind f) Q := by
  obtain ⟨a, e, r, e2, h2⟩ := h
  exact ⟨r, by rw [e]; exact e2, h2⟩
theorem Ok.step {Q : β → Prop} {f : α → Option β} {a : α} (e : x = some a) (h : Ok (f a) Q) : Ok (x.bind f) Q := Ok.bind ⟨a, e, h⟩
theorem Ok.mono (h : Ok x P) (k : ∀ a, P a → P' a) : Ok x P' := let ⟨a, e, h⟩ := h; ⟨a, e, k a h⟩
theorem Ok.ite {b : Bool} (h1 : b = true → Ok x P) (h2 : b = false → Ok y P) : Ok (if b = true then x else y) P := by
  cases b with
  | true => rw [if_pos rfl]; exact h1 rfl
  | false => rw [if_neg (by simp)]; exact h2 rfl
theorem Ok.must {Q : β → Prop} {b : Bool} {f : Unit → Option β} (hb : b = true) (h : Ok (f ()) Q) : Ok ((Go.Pw.must b).bind f) Q := Ok.step (by simp [Go.Pw.must, hb]) h
theorem Ok.forS {B : Nat → S → Option S} {n : Nat} {s : S} {Q : S → Prop} (Inv : Nat → S → Prop) (h0 : Inv 0 s) (h : ∀ j s, j < n → Inv j s → Ok (B j s) (Inv (j + 1))) (k : ∀ s, Inv n s → Q s) : Ok (forS B n 0 s) Q :=
  let ⟨s', h1, h2⟩ := forS_inv0 Inv h0 h
  ⟨s', h1, k s' h2⟩
theorem Ok.ctl {B : Nat → S → Option (Ctl S R)} {n : Nat} {s : S} {Q : β → Prop} {kr : R → Option β} {ks : S → Option β} (Inv : Nat → S → Prop) (Rp : R → Prop) (h0 : Inv 0 s)
    (h : ∀ j s, j < n → Inv j s → Ok (B j s) (CtlP (Inv (j + 1)) Rp)) (hr : ∀ r, Rp r → Ok (kr r) Q) (hn : ∀ s, Inv n s → Ok (ks s) Q) : Ok (ctl (forC B n 0 s) kr ks) Q := by
  obtain ⟨c, h1, h2⟩ := forC_inv0 Inv Rp h0 h
  unfold Go.Pw.ctl
  rw [h1]
  cases c with
  | next s => exact hn s h2
  | brk s => exact h2.elim
  | ret r => exact hr r h2
end
theorem forC_all_from {R : Type} {B : Nat → Unit → Option (Ctl Unit R)} {r : R} {p : Nat → Bool} : ∀ (k i : Nat), (∀ j, i ≤ j → j < i + k → B j () = some (if p j then .next () else .ret r)) → forC B k i () = some (if (List.range' i k).all p then .next () else .ret r)
  | 0, i, _ => by simp [forC]
  | k + 1, i, h => by
    have h0 := h i (Nat.le_refl _) (by omega)
    simp only [forC, h0, List.range'_succ, List.all_cons]
    cases hp : p i with
    | true => simp only [if_true, Bool.true_and]; exact forC_all_from k (i + 1) fun j h1 h2 => h j (by omega) (by omega)
    | false => simp
/-- A loop that looks whether all is right. -/
theorem forC_all {R : Type} {B : Nat → Unit → Option (Ctl Unit R)} {r : R} {p : Nat → Bool} {n : Nat} (h : ∀ j, j < n → B j () = some (if p j then .next () else .ret r)) : forC B n 0 () = some (if (List.range n).all p then .next () else .ret r) := by
  rw [forC_all_from n 0 (fun j _ hj => h j (by omega)), List.range_eq_range']
theorem ctl_all {R β : Type} {B : Nat → Unit → Option (Ctl Unit R)} {r : R} {p : Nat → Bool} {n : Nat} {kr : R → Option β} {k : Unit → Option β} (h : ∀ j, j < n → B j () = some (if p j then .next () else .ret r)) : ctl (forC B n 0 ()) kr k = if (List.range n).all p then k () else kr r := by
  rw [forC_all h]
  unfold ctl
  split <;> rfl
/-- A loop without a count, by a number that goes down. -/
theorem while_inv {S R : Type} {B : S → Option (Ctl S R)} (Inv : S → Prop) (Bp : S → Prop) (Rp : R → Prop) (μ : S → Nat) (h : ∀ s, Inv s → ∃ c, B s = some c ∧ (∀ s', c = .next s' → Inv s' ∧ μ s' < μ s) ∧ (∀ s', c = .brk s' → Bp s') ∧ (∀ r, c = .ret r → Rp r)) :
    ∀ (m : Nat) (s : S), μ s ≤ m → Inv s → ∃ c, whileC B s = some c ∧ (∀ s', c ≠ .next s') ∧ (∀ s', c = .brk s' → Bp s') ∧ (∀ r, c = .ret r → Rp r) := by
  intro m
  induction m with
  | zero =>
    intro s hm hi
    obtain ⟨c, h1, h2, h3, h4⟩ := h s hi
    have hn : ∀ s', c ≠ .next s' := fun s' e => by have := (h2 s' e).2; omega
    exact ⟨c, whileC_stop h1 hn, hn, h3, h4⟩
  | succ m ih =>
    intro s hm hi
    obtain ⟨c, h1, h2, h3, h4⟩ := h s hi
    by_cases hn : ∃ s', c = .next s'
    · obtain ⟨s', rfl⟩ := hn
      obtain ⟨hi', hlt⟩ := h2 s' rfl
      rw [whileC_next h1]
      exact ih s' (by omega) hi'
    · have hn' : ∀ s', c ≠ .next s' := fun s' e => hn ⟨s', e⟩
      exact ⟨c, whileC_stop h1 hn', hn', h3, h4⟩
theorem Ok.while {S R β : Type} {B : S → Option (Ctl S R)} {s : S} {Q : β → Prop} {kr : R → Option β} {k : S → Option β} (Inv : S → Prop) (Bp : S → Prop) (Rp : R → Prop) (μ : S → Nat) (h0 : Inv s)
    (h : ∀ s, Inv s → ∃ c, B s = some c ∧ (∀ s', c = .next s' → Inv s' ∧ μ s' < μ s) ∧ (∀ s', c = .brk s' → Bp s') ∧ (∀ r, c = .ret r → Rp r))
    (hr : ∀ r, Rp r → Ok (kr r) Q) (hb : ∀ s, Bp s → Ok (k s) Q) : Ok (Go.Pw.ctl (whileC B s) kr k) Q := by
  obtain ⟨c, h1, h2, h3, h4⟩ := while_inv Inv Bp Rp μ h (μ s) s (Nat.le_refl _) h0
  unfold Go.Pw.ctl
  rw [h1]
  cases c with
  | next s' => exact absurd rfl (h2 s')
  | brk s' => exact hb s' (h3 s' rfl)
  | ret r => exact hr r (h4 r rfl)
theorem Ok.eq {α : Type} {x : Option α} {a : α} (h : Ok x fun r => r = a) : x = some a := let ⟨r, h1, h2⟩ := h; by rw [h1, h2]
theorem Ok.of {α : Type} {x : Option α} {a : α} {P : α → Prop} (h : x = some a) (k : P a) : Ok x P := ⟨a, h, k⟩
theorem app_ok {α : Type} {b : Nat} {xs ys : List α} (h : (xs.length + ys.length) * b ≤ 140737488355328) : app b xs ys = some (xs ++ ys) := by unfold app; rw [if_pos h]
theorem wrap_id {n : Int} (h0 : -9223372036854775808 ≤ n) (h1 : n ≤ 9223372036854775807) : IntKind.i64.wrap n = n := wrap_i64 h0 h1
end Go.Pw
/-
  Plain Lean: least costs of paths, by what a row of them satisfies. No program in sight.
-/
set_option maxHeartbeats 4000000
namespace Go.Pw
abbrev Inf : Int := 1125899906842624
abbrev Arcs := Nat → Nat → Int → Prop
inductive Reach (A : Arcs) (src : Nat → Prop) : Nat → Int → Prop
  | base {i : Nat} : src i → Reach A src i 0
  | step {v u : Nat} {c w : Int} : Reach A src v c → A v u w → Reach A src u (c + w)
structure AOK (A : Arcs) (src : Nat → Prop) (n : Nat) : Prop where
  a : ∀ v u w, A v u w → v < n ∧ u < n ∧ 0 ≤ w ∧ w ≤ 1048576
  s : ∀ i, src i → i < n
structure Dst (A : Arcs) (src : Nat → Prop) (n : Nat) (l : List Int) : Prop where
  len : l.length = n
  rng : ∀ (i : Nat) (x : Int), l[i]? = some x → 0 ≤ x ∧ x ≤ Inf
  s0 : ∀ (i : Nat), src i → l[i]? = some 0
  re : ∀ (i : Nat) (x : Int), l[i]? = some x → x < Inf → Reach A src i x
def ClAt (A : Arcs) (l : List Int) (v : Nat) : Prop := ∀ (u : Nat) (w x y : Int), A v u w → l[v]? = some x → l[u]? = some y → x < Inf → y ≤ x + w
structure SP (A : Arcs) (src : Nat → Prop) (n : Nat) (l : List Int) : Prop extends Dst A src n l where
  cl : ∀ v, ClAt A l v
section
variable {A : Arcs} {src : Nat → Prop} {n : Nat} {l k : List Int}
theorem Reach.pos (hA : AOK A src n) {i : Nat} {c : Int} (h : Reach A src i c) : 0 ≤ c := by
  induction h with
  | base _ => exact Int.le_refl _
  | step _ h ih => have := (hA.a _ _ _ h).2.2.1; omega
theorem SP.le (hA : AOK A src n) (h : SP A src n l) {i : Nat} {c : Int} (hr : Reach A src i c) : c < Inf → ∃ y, l[i]? = some y ∧ y ≤ c := by
  induction hr with
  | base hs => exact fun _ => ⟨0, h.s0 _ hs, Int.le_refl _⟩
  | @step v u c w hr ha ih =>
    intro hc
    obtain ⟨_, hu, hw, _⟩ := hA.a _ _ _ ha
    have := hr.pos hA
    obtain ⟨x, hx, hxc⟩ := ih (by omega)
    obtain ⟨y, hy⟩ : ∃ y, l[u]? = some y := ⟨l[u]'(by rw [h.len]; exact hu), by simp [h.len, hu]⟩
    have := h.cl v u w x y ha hx hy (by omega)
    exact ⟨y, hy, by omega⟩
theorem Dst.set (hA : AOK A src n) (h : Dst A src n l) {v u : Nat} {w x y : Int} (ha : A v u w) (hx : l[v]? = some x) (hy : l[u]? = some y) (hlt : x + w < y) : Dst A src n (l.set u (x + w)) := by
  obtain ⟨_, hu, hw, _⟩ := hA.a _ _ _ ha
  have rx := h.rng v x hx
  have ry := h.rng u y hy
  have hul : u < l.length := by rw [h.len]; exact hu
  refine ⟨by simp [h.len], fun i z hz => ?_, fun i hi => ?_, fun i z hz hzi => ?_⟩
  · by_cases e : u = i
    · subst e
      rw [List.getElem?_set_self hul] at hz
      cases hz; omega
    · rw [List.getElem?_set_ne e] at hz; exact h.rng i z hz
  · by_cases e : u = i
    · subst e
      have := h.s0 u hi
      rw [hy] at this; cases this; omega
    · rw [List.getElem?_set_ne e]; exact h.s0 i hi
  · by_cases e : u = i
    · subst e
      rw [List.getElem?_set_self hul] at hz
      cases hz
      exact .step (h.re v x hx (by omega)) ha
    · rw [List.getElem?_set_ne e] at hz; exact h.re i z hz hzi
end
end Go.Pw
/-
  Plain Lean: loops with a counter of their own. No program in sight.
-/
set_option maxHeartbeats 4000000
namespace Go.Pw
end Go.Pw
