/-
  Classes numbered by first occurrence, and the coarsest stable relation: plain Lean, no program in sight.
-/
set_option linter.unusedSimpArgs false
set_option linter.unusedVariables false
namespace Go.Pw
open Classical

/-! ### classes by first occurrence -/
abbrev Rel := Nat → Nat → Prop
structure Eqv (n : Nat) (R : Rel) : Prop where
  refl : ∀ i, i < n → R i i
  symm : ∀ i j, i < n → j < n → R i j → R j i
  trans : ∀ i j k, i < n → j < n → k < n → R i j → R j k → R i k

/-- The first element of a class: nothing before it is in relation with it. -/
def isRep (R : Rel) (i : Nat) : Prop := ∀ j, j < i → ¬ R j i
noncomputable def rnk (R : Rel) : Nat → Nat
  | 0 => 0
  | i + 1 => rnk R i + if isRep R i then 1 else 0
/-- The first element that is in relation with i; searched up to m. -/
noncomputable def repTo (R : Rel) (i : Nat) : Nat → Nat
  | 0 => i
  | m + 1 => let r := repTo R i m; if r < m then r else if R m i then m else i
theorem rnk_succ (R : Rel) (i : Nat) : rnk R (i + 1) = rnk R i + if isRep R i then 1 else 0 := rfl
theorem rnk_le (R : Rel) (i : Nat) : rnk R i ≤ i := by
  induction i with
  | zero => exact Nat.le_refl _
  | succ i ih => rw [rnk_succ]; split <;> omega
theorem rnk_mono (R : Rel) {i j : Nat} (h : i ≤ j) : rnk R i ≤ rnk R j := by
  induction h with
  | refl => exact Nat.le_refl _
  | step _ ih => rw [rnk_succ]; omega
theorem rnk_lt {R : Rel} {i j : Nat} (h : i < j) (hi : isRep R i) : rnk R i < rnk R j := by
  have h1 : rnk R (i + 1) = rnk R i + 1 := by rw [rnk_succ]; simp [hi]
  have h2 : rnk R (i + 1) ≤ rnk R j := rnk_mono R (Nat.succ_le_of_lt h)
  omega
theorem rep_ex {n : Nat} {R : Rel} (h : Eqv n R) (i : Nat) (hi : i < n) : ∃ r, r ≤ i ∧ R r i ∧ isRep R r := by
  induction i using Nat.strongRecOn with
  | ind i ih =>
    by_cases hr : isRep R i
    · exact ⟨i, Nat.le_refl _, h.refl i hi, hr⟩
    · have : ∃ j, j < i ∧ R j i := by
        apply Classical.byContradiction
        intro hn
        exact hr fun j hj hR => hn ⟨j, hj, hR⟩
      obtain ⟨j, hj, hR⟩ := this
      obtain ⟨r, h1, h2, h3⟩ := ih j hj (by omega)
      exact ⟨r, by omega, h.trans r j i (by omega) (by omega) hi h2 hR, h3⟩
theorem rep_uniq {n : Nat} {R : Rel} (h : Eqv n R) {i r s : Nat} (hi : i < n) (h1 : r < n) (h2 : s < n) (hr : R r i) (hs : R s i) (pr : isRep R r) (ps : isRep R s) : r = s := by
  have hrs : R r s := h.trans r i s h1 hi h2 hr (h.symm s i h2 hi hs)
  rcases Nat.lt_trichotomy r s with hlt | e | hlt
  · exact absurd hrs (ps r hlt)
  · exact e
  · exact absurd (h.symm r s h1 h2 hrs) (pr s hlt)

/-- The class of i: the rank of its first element. -/
def IsCls (R : Rel) (i : Nat) (k : Nat) : Prop := ∃ r, r ≤ i ∧ R r i ∧ isRep R r ∧ k = rnk R r
theorem cls_ex {n : Nat} {R : Rel} (h : Eqv n R) {i : Nat} (hi : i < n) : ∃ k, IsCls R i k := by
  obtain ⟨r, h1, h2, h3⟩ := rep_ex h i hi
  exact ⟨_, r, h1, h2, h3, rfl⟩
theorem cls_uniq {n : Nat} {R : Rel} (h : Eqv n R) {i k l : Nat} (hi : i < n) (hk : IsCls R i k) (hl : IsCls R i l) : k = l := by
  obtain ⟨r, a1, a2, a3, rfl⟩ := hk
  obtain ⟨s, b1, b2, b3, rfl⟩ := hl
  rw [rep_uniq h hi (by omega) (by omega) a2 b2 a3 b3]
theorem cls_iff {n : Nat} {R : Rel} (h : Eqv n R) {i j k l : Nat} (hi : i < n) (hj : j < n) (hk : IsCls R i k) (hl : IsCls R j l) : k = l ↔ R i j := by
  obtain ⟨r, a1, a2, a3, rfl⟩ := hk
  obtain ⟨s, b1, b2, b3, rfl⟩ := hl
  constructor
  · intro e
    have : r = s := by
      rcases Nat.lt_trichotomy r s with hlt | e' | hlt
      · have := rnk_lt hlt a3; omega
      · exact e'
      · have := rnk_lt hlt b3; omega
    subst this
    exact h.trans i r j hi (by omega) hj (h.symm r i (by omega) hi a2) b2
  · intro hR
    have : R r j := h.trans r i j (by omega) hi hj a2 hR
    rw [rep_uniq h hj (by omega) (by omega) this b2 a3 b3]
theorem cls_lt {n : Nat} {R : Rel} {i k : Nat} (hi : i < n) (hk : IsCls R i k) : k < rnk R n := by
  obtain ⟨r, a1, a2, a3, rfl⟩ := hk
  exact rnk_lt (by omega) a3
/-- The step of a numbering by first occurrence. -/
theorem cls_step {n : Nat} {R : Rel} (h : Eqv n R) {i : Nat} (hi : i < n) : (isRep R i ∧ IsCls R i (rnk R i)) ∨ (¬ isRep R i ∧ ∃ j, j < i ∧ R j i ∧ isRep R j ∧ IsCls R i (rnk R j) ∧ IsCls R j (rnk R j)) := by
  obtain ⟨r, h1, h2, h3⟩ := rep_ex h i hi
  by_cases hr : isRep R i
  · exact .inl ⟨hr, i, Nat.le_refl _, h.refl i hi, hr, rfl⟩
  · refine .inr ⟨hr, r, ?_, h2, h3, ⟨r, h1, h2, h3, rfl⟩, ⟨r, Nat.le_refl _, h.refl r (by omega), h3, rfl⟩⟩
    rcases Nat.lt_or_ge r i with hlt | hge
    · exact hlt
    · have : r = i := by omega
      subst this; exact absurd h3 hr

/-- A list of classes. -/
def ClsL (R : Rel) (n : Nat) (c : List Int) : Prop := c.length = n ∧ ∀ i, i < n → ∃ k : Nat, c[i]? = some (k : Int) ∧ IsCls R i k
theorem ClsL.uniq {n : Nat} {R : Rel} (h : Eqv n R) {c d : List Int} (hc : ClsL R n c) (hd : ClsL R n d) : c = d := by
  apply List.ext_getElem?
  intro i
  by_cases hi : i < n
  · obtain ⟨k, a1, a2⟩ := hc.2 i hi
    obtain ⟨l, b1, b2⟩ := hd.2 i hi
    rw [a1, b1, cls_uniq h hi a2 b2]
  · rw [List.getElem?_eq_none (by have := hc.1; omega), List.getElem?_eq_none (by have := hd.1; omega)]
theorem isRep_congr {n : Nat} {R S : Rel} (e : ∀ i j, i < n → j < n → (R i j ↔ S i j)) {i : Nat} (hi : i < n) : isRep R i ↔ isRep S i := by
  unfold isRep
  constructor
  · intro h j hj hS; exact h j hj ((e j i (by omega) hi).2 hS)
  · intro h j hj hS; exact h j hj ((e j i (by omega) hi).1 hS)
theorem rnk_congr {n : Nat} {R S : Rel} (e : ∀ i j, i < n → j < n → (R i j ↔ S i j)) {i : Nat} (hi : i ≤ n) : rnk R i = rnk S i := by
  induction i with
  | zero => rfl
  | succ i ih =>
    unfold rnk
    rw [ih (by omega)]
    have := isRep_congr e (i := i) (by omega)
    by_cases hr : isRep R i
    · simp [hr, this.1 hr]
    · have h2 : ¬ isRep S i := fun h => hr (this.2 h)
      simp [hr, h2]
theorem ClsL.congr {n : Nat} {R S : Rel} (e : ∀ i j, i < n → j < n → (R i j ↔ S i j)) {c : List Int} (hc : ClsL R n c) : ClsL S n c := by
  refine ⟨hc.1, fun i hi => ?_⟩
  obtain ⟨k, a1, r, a2, a3, a4, rfl⟩ := hc.2 i hi
  exact ⟨_, a1, r, a2, (e r i (by omega) hi).1 a3, (isRep_congr e (by omega)).1 a4, rnk_congr e (by omega)⟩
theorem ClsL.iff {n : Nat} {R : Rel} (h : Eqv n R) {c : List Int} (hc : ClsL R n c) {i j : Nat} (hi : i < n) (hj : j < n) : c[i]? = c[j]? ↔ R i j := by
  obtain ⟨k, a1, a2⟩ := hc.2 i hi
  obtain ⟨l, b1, b2⟩ := hc.2 j hj
  rw [a1, b1, ← cls_iff h hi hj a2 b2]
  simp
  omega

/-! ### finer relations -/
theorem rnk_finer {n : Nat} {R S : Rel} (hR : Eqv n R) (hS : Eqv n S) (sub : ∀ i j, i < n → j < n → S i j → R i j) : ∀ i, i ≤ n → rnk R i ≤ rnk S i := by
  intro i hi
  induction i with
  | zero => exact Nat.le_refl _
  | succ i ih =>
    unfold rnk
    have := ih (by omega)
    by_cases hr : isRep R i
    · have : isRep S i := fun j hj hSj => hr j hj (sub j i (by omega) (by omega) hSj)
      simp [hr, this]; omega
    · simp [hr]; omega
/-- As many classes: the same relation. -/
theorem rnk_same {n : Nat} {R S : Rel} (hR : Eqv n R) (hS : Eqv n S) (sub : ∀ i j, i < n → j < n → S i j → R i j) (e : rnk R n = rnk S n) : ∀ i j, i < n → j < n → (R i j ↔ S i j) := by
  -- a representative of S is one of R
  have key : ∀ m, m ≤ n → rnk R m = rnk S m := by
    intro m hm
    have h1 := rnk_finer hR hS sub m hm
    -- the rest grows no less in S than in R
    have h2 : ∀ d, m + d ≤ n → rnk R (m + d) - rnk R m ≤ rnk S (m + d) - rnk S m := by
      intro d
      induction d with
      | zero => intro _; simp
      | succ d ih =>
        intro hd
        have := ih (by omega)
        have m1 := rnk_mono R (show m ≤ m + d by omega)
        have m2 := rnk_mono S (show m ≤ m + d by omega)
        rw [show m + (d + 1) = (m + d) + 1 by omega]
        have e1 : rnk R (m + d + 1) = rnk R (m + d) + if isRep R (m + d) then 1 else 0 := rfl
        have e2 : rnk S (m + d + 1) = rnk S (m + d) + if isRep S (m + d) then 1 else 0 := rfl
        by_cases hr : isRep R (m + d)
        · have : isRep S (m + d) := fun j hj hSj => hr j hj (sub j _ (by omega) (by omega) hSj)
          rw [e1, e2]; simp only [hr, this, if_true]; omega
        · rw [e1, e2]; simp only [hr, if_false]; split <;> omega
    have h3 := h2 (n - m) (by omega)
    rw [show m + (n - m) = n by omega] at h3
    have m1 := rnk_mono R hm
    have m2 := rnk_mono S hm
    omega
  have reps : ∀ i, i < n → isRep S i → isRep R i := by
    intro i hi hS'
    have a := key i (by omega)
    have b := key (i + 1) (by omega)
    unfold rnk at b
    by_cases hr : isRep R i
    · exact hr
    · simp only [hr, hS', if_true, if_false] at b; omega
  intro i j hi hj
  refine ⟨fun h => ?_, sub i j hi hj⟩
  obtain ⟨r, a1, a2, a3⟩ := rep_ex hS i hi
  obtain ⟨s, b1, b2, b3⟩ := rep_ex hS j hj
  have hr := reps r (by omega) a3
  have hs := reps s (by omega) b3
  have h1 : R r j := hR.trans r i j (by omega) hi hj (sub r i (by omega) hi a2) h
  have := rep_uniq hR hj (by omega) (by omega) h1 (sub s j (by omega) hj b2) hr hs
  subst this
  exact hS.trans i r j hi (by omega) hj (hS.symm r i (by omega) hi a2) b2

/-! ### stable relations -/
/-- A system, as its goals and its edges (from, label, to). -/
structure TS where
  n : Nat
  goal : Nat → Bool
  edge : Nat → Nat → Nat → Prop
  rng : ∀ i l t, edge i l t → i < n ∧ t < n
def half (x : TS) (R : Rel) (i j : Nat) : Prop := ∀ l t, x.edge i l t → ∃ u, x.edge j l u ∧ R t u
/-- The states' edges lead to the same classes. -/
def sig (x : TS) (R : Rel) : Rel := fun i j => half x R i j ∧ half x R j i
theorem sig_eqv {x : TS} {R : Rel} (h : Eqv x.n R) : Eqv x.n (sig x R) := by
  have hr : ∀ i, half x R i i := fun i l t e => ⟨t, e, h.refl t (x.rng _ _ _ e).2⟩
  have ht : ∀ i j k, half x R i j → half x R j k → half x R i k := by
    intro i j k h1 h2 l t e
    obtain ⟨u, e1, r1⟩ := h1 l t e
    obtain ⟨v, e2, r2⟩ := h2 l u e1
    exact ⟨v, e2, h.trans t u v (x.rng _ _ _ e).2 (x.rng _ _ _ e1).2 (x.rng _ _ _ e2).2 r1 r2⟩
  exact ⟨fun i _ => ⟨hr i, hr i⟩, fun i j _ _ h => ⟨h.2, h.1⟩, fun i j k _ _ _ h1 h2 => ⟨ht i j k h1.1 h2.1, ht k j i h2.2 h1.2⟩⟩
def Rel.and (R S : Rel) : Rel := fun i j => R i j ∧ S i j
theorem Eqv.and {n : Nat} {R S : Rel} (h : Eqv n R) (k : Eqv n S) : Eqv n (R.and S) :=
  ⟨fun i hi => ⟨h.refl i hi, k.refl i hi⟩, fun i j hi hj p => ⟨h.symm i j hi hj p.1, k.symm i j hi hj p.2⟩, fun i j l hi hj hl p q => ⟨h.trans i j l hi hj hl p.1 q.1, k.trans i j l hi hj hl p.2 q.2⟩⟩
def goalR (x : TS) : Rel := fun i j => x.goal i = x.goal j
theorem goalR_eqv (x : TS) : Eqv x.n (goalR x) := ⟨fun _ _ => rfl, fun _ _ _ _ h => h.symm, fun _ _ _ _ _ _ h k => h.trans k⟩
def SubR (n : Nat) (R S : Rel) : Prop := ∀ i j, i < n → j < n → R i j → S i j
structure Stable (x : TS) (R : Rel) : Prop where
  eqv : Eqv x.n R
  goal : SubR x.n R (goalR x)
  sig : SubR x.n R (sig x R)
theorem half_mono {x : TS} {R S : Rel} (h : SubR x.n R S) {i j : Nat} (k : half x R i j) : half x S i j := by
  intro l t e
  obtain ⟨u, e1, r1⟩ := k l t e
  exact ⟨u, e1, h t u (x.rng _ _ _ e).2 (x.rng _ _ _ e1).2 r1⟩
theorem sig_mono {x : TS} {R S : Rel} (h : SubR x.n R S) : ∀ i j, sig x R i j → sig x S i j := fun i j k => ⟨half_mono h k.1, half_mono h k.2⟩
/-- What is coarser than a stable relation stays so. -/
theorem Stable.keep {x : TS} {S R : Rel} (h : Stable x S) (k : SubR x.n S R) : SubR x.n S (R.and (Go.Pw.sig x R)) := fun i j hi hj hS => ⟨k i j hi hj hS, sig_mono k i j (h.sig i j hi hj hS)⟩
/-- Two stable relations, each coarser than all stable ones, are one. -/
theorem Stable.uniq {x : TS} {R S : Rel} (hR : Stable x R) (hS : Stable x S) (cR : ∀ T, Stable x T → SubR x.n T R) (cS : ∀ T, Stable x T → SubR x.n T S) : ∀ i j, i < x.n → j < x.n → (R i j ↔ S i j) :=
  fun i j hi hj => ⟨cS R hR i j hi hj, cR S hS i j hi hj⟩
end Go.Pw
