/-
  The words of the pure side: what my programs' pure functions are written in. Plain Lean: no program in sight.
-/
import GoSem.Core.Value
import Derived.IntWalk
namespace Go.Pw
universe u
theorem Zu {α : Type} {a b : α} (h : some a = some b) : a = b := Option.some.inj h
theorem Zx {a b : Bool} (h : a = b) : Value.bool a = Value.bool b := congrArg Value.bool h
abbrev Vi : Int → Value := Value.int IntKind.i64
/-- An index into a list: nothing where Go panics. -/
def idx {α : Type} (xs : List α) (n : Int) : Option α := if 0 ≤ n then xs[n.toNat]? else none
/-- A store into a list. -/
def setI {α : Type} (xs : List α) (n : Int) (y : α) : Option (List α) := if 0 ≤ n ∧ n.toNat < xs.length then some (xs.set n.toNat y) else none
/-- An append: nothing where no memory would bear it (b: the bytes of one element). -/
def app {α : Type} (b : Nat) (xs ys : List α) : Option (List α) := if (xs.length + ys.length) * b ≤ 140737488355328 then some (xs ++ ys) else none
/-- make([]T, n) -/
def mk {α : Type} (b : Nat) (z : α) (n : Int) : Option (List α) := if 0 ≤ n ∧ b * n.toNat ≤ 281474976710656 ∧ n ≤ 9223372036854775807 then some (List.replicate n.toNat z) else none
/-- xs[l:h] (within the length). -/
def cut {α : Type} (xs : List α) (l h : Int) : Option (List α) := if 0 ≤ l ∧ l ≤ h ∧ h ≤ xs.length then some ((xs.take h.toNat).drop l.toNat) else none
/-- What must hold, else the run dies. -/
def must (b : Bool) : Option Unit := if b then some () else none
/-- How a round of a loop ends. -/
inductive Ctl (S R : Type) where
  | next (s : S)
  | brk (s : S)
  | ret (r : R)
/-- A loop over i, i + 1, .., i + k - 1. -/
def forC {S R : Type} (B : Nat → S → Option (Ctl S R)) : Nat → Nat → S → Option (Ctl S R)
  | 0, _, s => some (.next s)
  | k + 1, i, s => match B i s with
    | some (.next s') => forC B k (i + 1) s'
    | r => r
/-- The same where no round leaves. -/
def forS {S : Type} (B : Nat → S → Option S) : Nat → Nat → S → Option S
  | 0, _, s => some s
  | k + 1, i, s => (B i s).bind fun s' => forS B k (i + 1) s'
/-- A loop without a count: n rounds at most. -/
def iterC {S R : Type} (B : S → Option (Ctl S R)) : Nat → S → Option (Ctl S R)
  | 0, _ => none
  | k + 1, s => match B s with
    | some (.next s') => iterC B k s'
    | r => r
open Classical in
/-- A loop without a count: what it comes to, if it ends. -/
noncomputable def whileC {S R : Type} (B : S → Option (Ctl S R)) (s : S) : Option (Ctl S R) :=
  if h : ∃ k c, iterC B k s = some c then some h.choose_spec.choose else none
section
variable {S R : Type} {B : S → Option (Ctl S R)}
theorem iterC_more : ∀ {k : Nat} {s : S} {c : Ctl S R}, iterC B k s = some c → ∀ j, iterC B (k + j) s = some c
  | 0, _, _, h, _ => by simp [iterC] at h
  | k + 1, s, c, h, j => by
    rw [Nat.add_right_comm]
    simp only [iterC] at h ⊢
    split at h
    · exact iterC_more h j
    · exact h
theorem iterC_det {j k : Nat} {s : S} {c d : Ctl S R} (h : iterC B j s = some c) (h' : iterC B k s = some d) : c = d := by
  have h1 := iterC_more h k
  have h2 := iterC_more h' j
  rw [Nat.add_comm] at h2
  rw [h1] at h2
  exact Zu h2
theorem whileC_of {k : Nat} {s : S} {c : Ctl S R} (h : iterC B k s = some c) : whileC B s = some c := by
  have hex : ∃ k c, iterC B k s = some c := ⟨k, c, h⟩
  unfold whileC
  rw [dif_pos hex]
  exact congrArg some (iterC_det hex.choose_spec.choose_spec h)
theorem whileC_some {s : S} {c : Ctl S R} (h : whileC B s = some c) : ∃ k, iterC B k s = some c := by
  unfold whileC at h
  split at h
  · rename_i hex
    have := Zu h
    exact ⟨hex.choose, by rw [hex.choose_spec.choose_spec, this]⟩
  · cases h
/-- One round ahead. -/
theorem whileC_next {s s' : S} (h : B s = some (.next s')) : whileC B s = whileC B s' := by
  by_cases hex : ∃ k c, iterC B k s' = some c
  · obtain ⟨k, c, hk⟩ := hex
    rw [whileC_of hk]
    exact whileC_of (k := k + 1) (by simp only [iterC, h]; exact hk)
  · have : ¬ ∃ k c, iterC B k s = some c := by
      rintro ⟨k, c, hk⟩
      cases k with
      | zero => simp [iterC] at hk
      | succ k => simp only [iterC, h] at hk; exact hex ⟨k, c, hk⟩
    unfold whileC
    rw [dif_neg hex, dif_neg this]
theorem whileC_stop {s : S} {c : Ctl S R} (h : B s = some c) (hc : ∀ s', c ≠ .next s') : whileC B s = some c :=
  whileC_of (k := 1) (by simp only [iterC, h]; cases c <;> first | rfl | exact absurd rfl (hc _))
end
theorem Zg {α β : Type} {x : Option α} {f : α → Option β} {r : β} (h : x.bind f = some r) : ∃ a, x = some a ∧ f a = some r := by
  cases x with
  | none => cases h
  | some a => exact ⟨a, rfl, h⟩
theorem must_some {b : Bool} {u : Unit} (h : must b = some u) : b = true := by
  unfold must at h; split at h <;> simp_all
theorem app_some {α : Type} {b : Nat} {xs ys zs : List α} (h : app b xs ys = some zs) : (xs.length + ys.length) * b ≤ 140737488355328 ∧ zs = xs ++ ys := by
  unfold app at h; split at h
  · rename_i hb; exact ⟨hb, (Zu h).symm⟩
  · cases h
theorem mk_some {α : Type} {b : Nat} {z : α} {n : Int} {zs : List α} (h : mk b z n = some zs) : 0 ≤ n ∧ b * n.toNat ≤ 281474976710656 ∧ n ≤ 9223372036854775807 ∧ zs = List.replicate n.toNat z := by
  unfold mk at h; split at h
  · rename_i hb; exact ⟨hb.1, hb.2.1, hb.2.2, (Zu h).symm⟩
  · cases h
theorem idx_some {α : Type} {xs : List α} {n : Int} {y : α} (h : idx xs n = some y) : 0 ≤ n ∧ n < xs.length ∧ xs[n.toNat]? = some y := by
  unfold idx at h; split at h
  · rename_i h0
    have := (List.getElem?_eq_some_iff.1 h).1
    exact ⟨h0, by omega, h⟩
  · cases h
theorem setI_some {α : Type} {xs zs : List α} {n : Int} {y : α} (h : setI xs n y = some zs) : 0 ≤ n ∧ n.toNat < xs.length ∧ zs = xs.set n.toNat y := by
  unfold setI at h; split at h
  · rename_i h0; exact ⟨h0.1, h0.2, (Zu h).symm⟩
  · cases h
theorem cut_some {α : Type} {xs zs : List α} {l r : Int} (h : cut xs l r = some zs) : 0 ≤ l ∧ l ≤ r ∧ r ≤ xs.length ∧ zs = (xs.take r.toNat).drop l.toNat := by
  unfold cut at h; split at h
  · rename_i h0; exact ⟨h0.1, h0.2.1, h0.2.2, (Zu h).symm⟩
  · cases h
abbrev un2 {α1 α2 : Type} {δ : Sort u} (f : α1 → α2 → δ) (t : α1 × α2) : δ := f t.1 t.2
theorem un2_eq {α1 α2 : Type} {δ : Sort u} {f : α1 → α2 → δ} {a1 : α1} {a2 : α2} {r : δ} (h : un2 f (a1, a2) = r) : f a1 a2 = r := h
abbrev un3 {α1 α2 α3 : Type} {δ : Sort u} (f : α1 → α2 → α3 → δ) (t : α1 × α2 × α3) : δ := f t.1 t.2.1 t.2.2
theorem un3_eq {α1 α2 α3 : Type} {δ : Sort u} {f : α1 → α2 → α3 → δ} {a1 : α1} {a2 : α2} {a3 : α3} {r : δ} (h : un3 f (a1, a2, a3) = r) : f a1 a2 a3 = r := h
/-- What follows a loop that rounds may leave: by a return, or by its end or a break. -/
def ctl {S R β : Type} (x : Option (Ctl S R)) (kr : R → Option β) (k : S → Option β) : Option β := x.bind fun c => match c with | .ret r => kr r | .next s => k s | .brk s => k s
theorem ctl_some {S R β : Type} {x : Option (Ctl S R)} {kr : R → Option β} {k : S → Option β} {r : β} (h : ctl x kr k = some r) :
    ∃ c, x = some c ∧ (∀ q, c = .ret q → kr q = some r) ∧ (∀ s, c = .next s → k s = some r) ∧ (∀ s, c = .brk s → k s = some r) := by
  obtain ⟨c, h1, h2⟩ := Zg h
  refine ⟨c, h1, ?_, ?_, ?_⟩ <;> (rintro _ rfl; exact h2)
end Go.Pw
