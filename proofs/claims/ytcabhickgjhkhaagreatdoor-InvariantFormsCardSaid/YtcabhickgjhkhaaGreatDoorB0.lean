/-
  Plain Lean: a small logic for loops and for what may fail; shortest paths by what they satisfy. No program in sight.
-/
import Derived.Test.YtcabhickgjhkhaaGreatDoorL6
import Derived.Test.YtcabhickgjhkhaaGreatDoorL11
set_option linter.unusedSimpArgs false
set_option linter.unusedVariables false
namespace Go.Pw
/-! ### loops -/
theorem forS_inv {S : Type} {B : Nat → S → Option S} {n : Nat} (Inv : Nat → S → Prop) (h : ∀ j s, j < n → Inv j s → ∃ s', B j s = some s' ∧ Inv (j + 1) s') :
    ∀ (k i : Nat) (s : S), i + k = n → Inv i s → ∃ s', forS B k i s = some s' ∧ Inv n s'
  | 0, i, s, hn, hi => ⟨s, rfl, by rw [← hn]; exact hi⟩
  | k + 1, i, s, hn, hi => by
    obtain ⟨s', h1, h2⟩ := h i s (by omega) hi
    obtain ⟨t, h3, h4⟩ := forS_inv Inv h k (i + 1) s' (by omega) h2
    exact ⟨t, by simp only [forS, h1, Option.bind_some, h3], h4⟩
theorem forS_inv0 {S : Type} {B : Nat → S → Option S} {n : Nat} {s : S} (Inv : Nat → S → Prop) (h0 : Inv 0 s) (h : ∀ j s, j < n → Inv j s → ∃ s', B j s = some s' ∧ Inv (j + 1) s') :
    ∃ s', forS B n 0 s = some s' ∧ Inv n s' := forS_inv Inv h n 0 s (by omega) h0
/-- How a loop with ways out ends. -/
def CtlP {S R : Type} (Inv : S → Prop) (Rp : R → Prop) : Ctl S R → Prop
  | .next s => Inv s
  | .brk _ => False
  | .ret r => Rp r
theorem forC_inv {S R : Type} {B : Nat → S → Option (Ctl S R)} {n : Nat} (Inv : Nat → S → Prop) (Rp : R → Prop) (h : ∀ j s, j < n → Inv j s → ∃ c, B j s = some c ∧ CtlP (Inv (j + 1)) Rp c) :
    ∀ (k i : Nat) (s : S), i + k = n → Inv i s → ∃ c, forC B k i s = some c ∧ CtlP (Inv n) Rp c
  | 0, i, s, hn, hi => ⟨.next s, rfl, by rw [← hn]; exact hi⟩
  | k + 1, i, s, hn, hi => by
    obtain ⟨c, h1, h2⟩ := h i s (by omega) hi
    cases c with
    | next s' =>
      obtain ⟨t, h3, h4⟩ := forC_inv Inv Rp h k (i + 1) s' (by omega) h2
      exact ⟨t, by simp only [forC, h1, h3], h4⟩
    | brk s' => exact h2.elim
    | ret r => exact ⟨.ret r, by simp only [forC, h1], h2⟩
theorem forC_inv0 {S R : Type} {B : Nat → S → Option (Ctl S R)} {n : Nat} {s : S} (Inv : Nat → S → Prop) (Rp : R → Prop) (h0 : Inv 0 s) (h : ∀ j s, j < n → Inv j s → ∃ c, B j s = some c ∧ CtlP (Inv (j + 1)) Rp c) :
    ∃ c, forC B n 0 s = some c ∧ CtlP (Inv n) Rp c := forC_inv Inv Rp h n 0 s (by omega) h0
/-! ### lists and matrices -/
theorem idx_nat {α : Type} {xs : List α} {i : Nat} : idx xs (i : Int) = xs[i]? := by simp [idx]
/-! ### a small logic for what may fail -/
def Ok {α : Type} (x : Option α) (P : α → Prop) : Prop := ∃ r, x = some r ∧ P r
section
variable {α β S R : Type} {P P' : α → Prop} {x y : Option α}
theorem Ok.ret {a : α} (h : P a) : Ok (some a) P := ⟨a, rfl, h⟩
theorem Ok.bind {Q : β → Prop} {f : α → Option β} (h : Ok x fun a => Ok (f a) Q) : Ok (x.bind f) Q := by
  obtain ⟨a, e, r, e2, h2⟩ := h
  exact ⟨r, by rw [e]; exact e2, h2⟩
theorem Ok.step {Q : β → Prop} {f : α → Option β} {a : α} (e : x = some a) (h : Ok (f a) Q) : Ok (x.bind f) Q := Ok.bind ⟨a, e, h⟩
theorem Ok.mono (h : Ok x P) (k : ∀ a, P a → P' a) : Ok x P' := let ⟨a, e, h⟩ := h; ⟨a, e, k a h⟩
theorem Ok.must {Q : β → Prop} {b : Bool} {f : Unit → Option β} (hb : b = true) (h : Ok (f ()) Q) : Ok ((Go.Pw.must b).bind f) Q := Ok.step (by simp [Go.Pw.must, hb]) h
theorem Ok.forS {B : Nat → S → Option S} {n : Nat} {s : S} {Q : S → Prop} (Inv : Nat → S → Prop) (h0 : Inv 0 s) (h : ∀ j s, j < n → Inv j s → Ok (B j s) (Inv (j + 1))) (k : ∀ s, Inv n s → Q s) : Ok (forS B n 0 s) Q :=
  let ⟨s', h1, h2⟩ := forS_inv0 Inv h0 h
  ⟨s', h1, k s' h2⟩
theorem Ok.ctl {B : Nat → S → Option (Ctl S R)} {n : Nat} {s : S} {Q : β → Prop} {kr : R → Option β} {ks : S → Option β} (Inv : Nat → S → Prop) (Rp : R → Prop) (h0 : Inv 0 s)
    (h : ∀ j s, j < n → Inv j s → Ok (B j s) (CtlP (Inv (j + 1)) Rp)) (hr : ∀ r, Rp r → Ok (kr r) Q) (hn : ∀ s, Inv n s → Ok (ks s) Q) : Ok (ctl (forC B n 0 s) kr ks) Q := by
  obtain ⟨c, h1, h2⟩ := forC_inv0 Inv Rp h0 h
  unfold Go.Pw.ctl
  rw [h1]
  cases c with
  | next s => exact hn s h2
  | brk s => exact h2.elim
  | ret r => exact hr r h2
end
theorem forC_all_from {R : Type} {B : Nat → Unit → Option (Ctl Unit R)} {r : R} {p : Nat → Bool} : ∀ (k i : Nat), (∀ j, i ≤ j → j < i + k → B j () = some (if p j then .next () else .ret r)) → forC B k i () = some (if (List.range' i k).all p then .next () else .ret r)
  | 0, i, _ => by simp [forC]
  | k + 1, i, h => by
    have h0 := h i (Nat.le_refl _) (by omega)
    simp only [forC, h0, List.range'_succ, List.all_cons]
    cases hp : p i with
    | true => simp only [if_true, Bool.true_and]; exact forC_all_from k (i + 1) fun j h1 h2 => h j (by omega) (by omega)
    | false => simp
/-- A loop that looks whether all is right. -/
theorem forC_all {R : Type} {B : Nat → Unit → Option (Ctl Unit R)} {r : R} {p : Nat → Bool} {n : Nat} (h : ∀ j, j < n → B j () = some (if p j then .next () else .ret r)) : forC B n 0 () = some (if (List.range n).all p then .next () else .ret r) := by
  rw [forC_all_from n 0 (fun j _ hj => h j (by omega)), List.range_eq_range']
theorem ctl_all {R β : Type} {B : Nat → Unit → Option (Ctl Unit R)} {r : R} {p : Nat → Bool} {n : Nat} {kr : R → Option β} {k : Unit → Option β} (h : ∀ j, j < n → B j () = some (if p j then .next () else .ret r)) : ctl (forC B n 0 ()) kr k = if (List.range n).all p then k () else kr r := by
  rw [forC_all h]
  unfold ctl
  split <;> rfl
theorem Ok.eq {α : Type} {x : Option α} {a : α} (h : Ok x fun r => r = a) : x = some a := let ⟨r, h1, h2⟩ := h; by rw [h1, h2]
theorem Ok.of {α : Type} {x : Option α} {a : α} {P : α → Prop} (h : x = some a) (k : P a) : Ok x P := ⟨a, h, k⟩
theorem wrap_id {n : Int} (h0 : -9223372036854775808 ≤ n) (h1 : n ≤ 9223372036854775807) : IntKind.i64.wrap n = n := wrap_i64 h0 h1
end Go.Pw
