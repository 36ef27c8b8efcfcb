/-
  Merging classes, in plain Lean: the program and the reference join the same classes.
-/
import Derived.Test.YtagooehmocpcjaaDoorExBr
set_option maxHeartbeats 4000000
set_option maxRecDepth 100000
set_option linter.unusedSimpArgs false
set_option linter.unusedVariables false
namespace Go.Pw
/-! ### classes and their number -/
/-- The numbers below K, each of them, one for each of n things. -/
structure KOK (c : List Int) (n K : Nat) : Prop where
  len : c.length = n
  rng : ∀ i, i < n → ∃ k : Nat, k < K ∧ c[i]? = some (k : Int)
  onto : ∀ b, b < K → ∃ i, i < n ∧ c[i]? = some (b : Int)
  le : K ≤ n
theorem rnk_onto (R : Rel) : ∀ n b, b < rnk R n → ∃ r, r < n ∧ isRep R r ∧ rnk R r = b
  | 0, b, h => by simp [rnk] at h
  | n + 1, b, h => by
    by_cases hb : b < rnk R n
    · obtain ⟨r, h1, h2, h3⟩ := rnk_onto R n b hb
      exact ⟨r, by omega, h2, h3⟩
    · rw [rnk_succ] at h
      by_cases hr : isRep R n
      · simp only [hr, if_true] at h
        exact ⟨n, by omega, hr, by omega⟩
      · simp only [hr, if_false] at h; omega
theorem ClsL.kok {R : Rel} {n : Nat} {c : List Int} (hE : Eqv n R) (h : ClsL R n c) : KOK c n (rnk R n) := by
  refine ⟨h.1, fun i hi => ?_, fun b hb => ?_, rnk_le R n⟩
  · obtain ⟨k, h1, h2⟩ := h.2 i hi
    exact ⟨k, cls_lt hi h2, h1⟩
  · obtain ⟨r, h1, h2, h3⟩ := rnk_onto R n b hb
    obtain ⟨k, h4, h5⟩ := h.2 r h1
    have := cls_uniq hE h1 h5 ⟨r, Nat.le_refl _, hE.refl r h1, h2, rfl⟩
    exact ⟨r, h1, by rw [h4, this, h3]⟩
theorem max_ok {c : List Int} {n K : Nat} (h : KOK c n K) (hn : 0 < n) (hn2 : n ≤ 4000000) : slices_Max___int_int__o_p c = some ((K : Int) - 1) := by
  unfold slices_Max___int_int__o_p
  have hl := h.len
  rw [if_neg (by simp; omega)]
  obtain ⟨k0, hk0, h0⟩ := h.rng 0 hn
  have hle := h.le
  simp only [Option.bind_some, show ((0 : Int)) = ((0 : Nat) : Int) from rfl, idx_nat, h0]
  have hfirst : ∀ (j : Nat) (k : Int), j < 1 → c[j]? = some k → k ≤ (k0 : Int) := by
    intro j k hj hk
    have : j = 0 := by omega
    subst this
    rw [h0] at hk
    cases hk
    omega
  refine Ok.eq (Ok.while (fun s : Int × Int => ∃ i : Nat, s.2 = (i : Int) ∧ 1 ≤ i ∧ i ≤ n ∧ (∃ j, j < i ∧ c[j]? = some s.1) ∧ ∀ j k, j < i → c[j]? = some k → k ≤ s.1) (fun s => (∃ j, j < n ∧ c[j]? = some s.1) ∧ ∀ j k, j < n → c[j]? = some k → k ≤ s.1) (fun _ => False) (fun s => n - s.2.toNat)
    ⟨1, rfl, Nat.le_refl _, hn, ⟨0, by omega, h0⟩, hfirst⟩ ?_ (fun _ h => h.elim) ?_)
  · rintro ⟨m, i'⟩ ⟨i, e, h1, h2, ⟨j0, hj0, hj1⟩, h4⟩
    simp only at e hj1 h4
    subst e
    simp only [un2]
    by_cases hlt : (i : Int) < (c.length : Int)
    · obtain ⟨k, hk, hki⟩ := h.rng i (by omega)
      simp only [hlt, decide_true, if_true, idx_nat, hki, Option.bind_some]
      rw [wrap_id (by omega) (by omega)]
      refine ⟨_, rfl, fun s' e => ?_, fun s' e => (by cases e), fun r e => (by cases e)⟩
      cases e
      refine ⟨⟨i + 1, by simp, by omega, by omega, ?_, ?_⟩, by simp only; omega⟩
      · by_cases hm : m ≤ (k : Int)
        · exact ⟨i, by omega, by rw [hki]; simp only; rw [Int.max_eq_right hm]⟩
        · exact ⟨j0, by omega, by rw [hj1]; simp only; rw [Int.max_eq_left (by omega)]⟩
      · intro j k' hj hk'
        simp only
        by_cases e : j = i
        · subst e; rw [hki] at hk'; cases hk'; omega
        · have := h4 j k' (by omega) hk'; omega
    · simp only [hlt, decide_false, Bool.false_eq_true, if_false]
      refine ⟨_, rfl, fun s' e => (by cases e), fun s' e => ?_, fun r e => (by cases e)⟩
      cases e
      have : i = n := by omega
      subst this
      exact ⟨⟨j0, hj0, hj1⟩, h4⟩
  · rintro ⟨m, i⟩ ⟨⟨j, h1, h2⟩, h3⟩
    simp only at h2 h3
    simp only [un2]
    refine Ok.ret ?_
    obtain ⟨k, hk, hkj⟩ := h.rng j h1
    rw [hkj] at h2; cases h2
    obtain ⟨q, hq, hqq⟩ := h.onto (K - 1) (by omega)
    have := h3 q _ hq hqq
    omega
theorem many_ok {c : List Int} {n K : Nat} (h : KOK c n K) (hn : 0 < n) (hn2 : n ≤ 4000000) : ref45_Many_o_p c (n : Int) = some (K : Int) := by
  unfold ref45_Many_o_p
  have hl := h.len
  have hle := h.le
  rw [if_neg (by simp; omega)]
  refine Ok.eq (Ok.ctl (fun m (k : Int) => (∀ j v, j < m → c[j]? = some v → v < k) ∧ (k = 0 ∧ m = 0 ∨ ∃ j, j < m ∧ c[j]? = some (k - 1))) (fun _ => False) ⟨fun j v h => absurd h (Nat.not_lt_zero _), .inl ⟨rfl, rfl⟩⟩ ?_ (fun _ h => h.elim) ?_)
  · rintro m k hm ⟨h1, h2⟩
    obtain ⟨v, hv, hvm⟩ := h.rng m (by omega)
    simp only [idx_nat, hvm, Option.bind_some]
    have n1 : ¬ (v : Int) < 0 := by omega
    have n2 : ¬ (n : Int) ≤ (v : Int) := by omega
    simp only [n1, n2, decide_false, Bool.or_self, Bool.false_eq_true, if_false]
    rw [wrap_id (by omega) (by omega)]
    refine Ok.ret ⟨fun j w hj hw => ?_, .inr ?_⟩
    · by_cases e : j = m
      · subst e; rw [hvm] at hw; cases hw; omega
      · have := h1 j w (by omega) hw; omega
    · by_cases hkv : k ≤ (v : Int) + 1
      · exact ⟨m, by omega, by rw [hvm, Int.max_eq_right hkv]; simp⟩
      · rcases h2 with ⟨rfl, rfl⟩ | ⟨j, hj, hj2⟩
        · omega
        · exact ⟨j, by omega, by rw [hj2, Int.max_eq_left (by omega)]⟩
  · rintro k ⟨h1, h2⟩
    rw [hl] at h1 h2
    have hk : k = (K : Int) := by
      rcases h2 with ⟨_, rfl⟩ | ⟨j, hj, hj2⟩
      · omega
      · obtain ⟨v, hv, hvj⟩ := h.rng j hj
        rw [hvj] at hj2
        simp only [Option.some.injEq] at hj2
        obtain ⟨q, hq, hqq⟩ := h.onto (K - 1) (by omega)
        have := h1 q _ hq hqq
        omega
    subst hk
    refine Ok.must (by simp; omega) ?_
    refine Ok.ctl (fun _ _ => True) (fun _ => False) trivial ?_ (fun _ h => h.elim) ?_
    · rintro b _ hb _
      have hbK : b < K := by omega
      refine Ok.ctl (fun m (is : Bool) => is = true ↔ ∃ j, j < m ∧ c[j]? = some (b : Int)) (fun _ => False) (by simp) ?_ (fun _ h => h.elim) ?_
      · rintro m is hm hI
        obtain ⟨v, hv, hvm⟩ := h.rng m (by omega)
        simp only [idx_nat, hvm, Option.bind_some]
        have n1 : ¬ (v : Int) < 0 := by omega
        simp only [n1, decide_false, Bool.false_eq_true, if_false]
        refine Ok.ret ?_
        show (is || decide ((v : Int) = (b : Int))) = true ↔ _
        rw [Bool.or_eq_true, hI, decide_eq_true_eq]
        constructor
        · rintro (⟨j, h1, h2⟩ | e)
          · exact ⟨j, by omega, h2⟩
          · exact ⟨m, by omega, by rw [hvm, e]⟩
        · rintro ⟨j, h1, h2⟩
          by_cases e : j = m
          · subst e; rw [hvm] at h2; cases h2; exact .inr rfl
          · exact .inl ⟨j, by omega, h2⟩
      · rintro is hI
        rw [hl] at hI
        have : is = true := hI.2 (h.onto b hbK)
        subst this
        exact Ok.ret trivial
    · rintro _ _
      refine Ok.ctl (fun _ _ => True) (fun _ => False) trivial ?_ (fun _ h => h.elim) (fun _ _ => Ok.ret rfl)
      rintro m _ hm _
      obtain ⟨v, hv, hvm⟩ := h.rng m (by omega)
      have n1 : ¬ (v : Int) < 0 := by omega
      simp only [idx_nat, hvm, Option.bind_some, n1, decide_false, Bool.false_eq_true, if_false]
      exact Ok.ret trivial

/-! ### goals of classes, the pair to be joined -/
open Classical in
noncomputable def goalB (x : System) (c : List Int) (b : Nat) : Bool := decide (∃ i : Nat, c[i]? = some (b : Int) ∧ x.Goals[i]? = some true)
theorem goalB_iff {x : System} {c : List Int} {b : Nat} : goalB x c b = true ↔ ∃ i : Nat, c[i]? = some (b : Int) ∧ x.Goals[i]? = some true := by unfold goalB; simp
theorem goal_eq {x : System} {c : List Int} {n : Nat} (hc : c.length = n) (hg : x.Goals.length = n) (b : Nat) : ref45_goal_o_p x c (b : Int) = some (goalB x c b) := by
  unfold ref45_goal_o_p
  rw [ctl_all (p := fun i => !(decide (c[i]? = some (b : Int)) && decide (x.Goals[i]? = some true))) (r := true) ?_]
  · by_cases h : goalB x c b = true
    · rw [h, if_neg]
      intro hall
      obtain ⟨i, h1, h2⟩ := goalB_iff.1 h
      have := List.all_eq_true.1 hall i (by have := (List.getElem?_eq_some_iff.1 h1).1; simpa using this)
      simp [h1, h2] at this
    · have hf : goalB x c b = false := by simpa using h
      rw [hf, if_pos]
      refine List.all_eq_true.2 fun i hi => ?_
      by_cases h1 : c[i]? = some (b : Int)
      · by_cases h2 : x.Goals[i]? = some true
        · exact absurd (goalB_iff.2 ⟨i, h1, h2⟩) h
        · simp [h2]
      · simp [h1]
  · intro j hj
    obtain ⟨v, hv⟩ := get_some hj
    obtain ⟨g, hgj⟩ := get_some (show j < x.Goals.length by omega)
    simp only [idx_nat, hv, hgj, Option.bind_some, Option.some.injEq]
    by_cases e : v = (b : Int)
    · cases g <;> simp [e]
    · simp [e]
def IsPick (g : Nat → Bool) (K i k : Nat) : Prop := i < k ∧ k < K ∧ g i = g k ∧ ∀ a b, a < b → b < K → g a = g b → b ≤ k ∧ (b = k → a ≤ i)
def PickOr (g : Nat → Bool) (K i k : Nat) : Prop := IsPick g K i k ∨ ((∀ a b, a < b → b < K → g a ≠ g b) ∧ i = 0 ∧ k = 1)
theorem PickOr.uniq {g : Nat → Bool} {K i k i' k' : Nat} (h : PickOr g K i k) (h' : PickOr g K i' k') : i = i' ∧ k = k' := by
  rcases h with ⟨a1, a2, a3, a4⟩ | ⟨a1, rfl, rfl⟩
  · rcases h' with ⟨b1, b2, b3, b4⟩ | ⟨b1, rfl, rfl⟩
    · have h1 := a4 i' k' b1 b2 b3
      have h2 := b4 i k a1 a2 a3
      have : k = k' := by omega
      subst this
      exact ⟨by have := h1.2 rfl; have := h2.2 rfl; omega, rfl⟩
    · exact absurd a3 (b1 i k a1 a2)
  · rcases h' with ⟨b1, b2, b3, b4⟩ | ⟨b1, rfl, rfl⟩
    · exact absurd b3 (a1 i' k' b1 b2)
    · exact ⟨rfl, rfl⟩
theorem PickOr.lt {g : Nat → Bool} {K i k : Nat} (h : PickOr g K i k) (hK : 2 ≤ K) : i < k ∧ k < K := by
  rcases h with ⟨a1, a2, _⟩ | ⟨_, rfl, rfl⟩
  · exact ⟨a1, a2⟩
  · omega
theorem PickOr.same {g : Nat → Bool} {K i k : Nat} (h : PickOr g K i k) (hK : 3 ≤ K) : g i = g k := by
  rcases h with ⟨_, _, a3, _⟩ | ⟨h, rfl, rfl⟩
  · exact a3
  · have h1 := h 0 1 (by omega) (by omega)
    have h2 := h 0 2 (by omega) (by omega)
    have h3 := h 1 2 (by omega) (by omega)
    revert h1 h2 h3
    cases g 0 <;> cases g 1 <;> cases g 2 <;> simp
theorem pair_ok {goals : List Bool} {K : Nat} {g : Nat → Bool} (hl : goals.length = K) (hg : ∀ b, b < K → goals[b]? = some (g b)) (hK : 2 ≤ K) (hK2 : K ≤ 4000000) : Ok (shrink_pair_o_p goals) fun r => ∃ i k : Nat, r = ((i : Int), (k : Int)) ∧ PickOr g K i k := by
  unfold shrink_pair_o_p
  have hw0 : IntKind.i64.wrap ((goals.length : Int) - 1) = ((K - 1 : Nat) : Int) := by rw [wrap_id (by omega) (by omega)]; omega
  rw [hw0]
  refine Ok.while (fun k : Int => ∃ q : Nat, k = (q : Int) ∧ q < K ∧ ∀ a b, a < b → b < K → q < b → g a ≠ g b) (fun _ => ∀ a b, a < b → b < K → g a ≠ g b) (fun r => ∃ i k : Nat, r = ((i : Int), (k : Int)) ∧ IsPick g K i k) (fun k => k.toNat) ⟨K - 1, rfl, by omega, fun a b _ hb h => by omega⟩ ?_ ?_ ?_
  · rintro k ⟨q, rfl, hq, hno⟩
    by_cases h0 : (0 : Int) < (q : Int)
    · simp only [h0, decide_true, if_true]
      have hw1 : IntKind.i64.wrap ((q : Int) - 1) = ((q - 1 : Nat) : Int) := by rw [wrap_id (by omega) (by omega)]; omega
      rw [hw1]
      refine (Ok.while (fun i : Int => ∃ p : Nat, i = (p : Int) - 1 ∧ p ≤ q ∧ ∀ a, p ≤ a → a < q → g a ≠ g q) (fun _ => ∀ a, a < q → g a ≠ g q) (fun r => ∃ i k : Nat, r = ((i : Int), (k : Int)) ∧ IsPick g K i k) (fun i => (i + 1).toNat) ⟨q, by omega, Nat.le_refl _, fun a h1 h2 => by omega⟩ ?_ ?_ ?_).mono fun c hc => hc
      · rintro i ⟨p, rfl, hp, hno2⟩
        by_cases h1 : (0 : Int) ≤ (p : Int) - 1
        · simp only [h1, decide_true, if_true]
          have e1 : (p : Int) - 1 = ((p - 1 : Nat) : Int) := by omega
          have e2 : IntKind.i64.wrap (((p - 1 : Nat) : Int) - 1) = ((p - 1 : Nat) : Int) - 1 := wrap_id (by omega) (by omega)
          rw [e1]
          simp only [idx_nat, hg (p - 1) (by omega), hg q hq, Option.bind_some, e2]
          by_cases e : g (p - 1) = g q
          · simp only [e, beq_self_eq_true, if_true]
            refine ⟨_, rfl, fun s' e => (by cases e), fun s' e => (by cases e), fun r e' => ?_⟩
            cases e'
            refine ⟨p - 1, q, rfl, by omega, hq, e, fun a b hab hb hgab => ⟨?_, fun hbq => ?_⟩⟩
            · rcases Nat.lt_or_ge q b with h | h
              · exact absurd hgab (hno a b hab hb h)
              · exact h
            · subst hbq
              rcases Nat.lt_or_ge (p - 1) a with h | h
              · exact absurd hgab (hno2 a (by omega) hab)
              · exact h
          · have hne : (g (p - 1) == g q) = false := by simpa using e
            simp only [hne, Bool.false_eq_true, if_false]
            refine ⟨_, rfl, fun s' e' => ?_, fun s' e => (by cases e), fun r e => (by cases e)⟩
            cases e'
            refine ⟨⟨p - 1, rfl, by omega, fun a h2 h3 => ?_⟩, by omega⟩
            by_cases ea : a = p - 1
            · subst ea; exact e
            · exact hno2 a (by omega) h3
        · simp only [h1, decide_false, Bool.false_eq_true, if_false]
          refine ⟨_, rfl, fun s' e => (by cases e), fun s' e => ?_, fun r e => (by cases e)⟩
          have : p = 0 := by omega
          subst this
          exact fun a ha => hno2 a (by omega) ha
      · rintro r hr
        refine ⟨_, rfl, fun s' e => (by cases e), fun s' e => (by cases e), fun r' e => ?_⟩
        cases e
        exact hr
      · rintro _ hno2
        refine ⟨_, rfl, fun s' e => ?_, fun s' e => (by cases e), fun r e => (by cases e)⟩
        cases e
        refine ⟨⟨q - 1, rfl, by omega, fun a b hab hb hqb => ?_⟩, by omega⟩
        by_cases e : b = q
        · subst e; exact hno2 a hab
        · exact hno a b hab hb (by omega)
    · simp only [h0, decide_false, Bool.false_eq_true, if_false]
      refine ⟨_, rfl, fun s' e => (by cases e), fun s' e => ?_, fun r e => (by cases e)⟩
      exact fun a b hab hb => hno a b hab hb (by omega)
  · rintro r ⟨i, k, rfl, h⟩
    exact Ok.ret ⟨i, k, rfl, .inl h⟩
  · rintro _ h
    exact Ok.ret ⟨0, 1, rfl, .inr ⟨h, rfl, rfl⟩⟩

/-! ### joining -/
def joinV (i k : Nat) (v : Int) : Int := if v = (k : Int) then (i : Int) else if (k : Int) < v then v - 1 else v
noncomputable def pk (x : System) (c : List Int) (K : Nat) : Nat × Nat := Classical.epsilon fun p : Nat × Nat => PickOr (goalB x c) K p.1 p.2
theorem pk_eq {x : System} {c : List Int} {K i k : Nat} (h : PickOr (goalB x c) K i k) : pk x c K = (i, k) := by
  have h1 : PickOr (goalB x c) K (pk x c K).1 (pk x c K).2 := Classical.epsilon_spec (p := fun p : Nat × Nat => PickOr (goalB x c) K p.1 p.2) ⟨(i, k), h⟩
  obtain ⟨e1, e2⟩ := h1.uniq h
  exact Prod.ext e1 e2
noncomputable def stepM (x : System) (c : List Int) (K : Nat) : List Int := c.map (joinV (pk x c K).1 (pk x c K).2)
noncomputable def itM (x : System) : Nat → List Int → Nat → List Int
  | 0, c, _ => c
  | j + 1, c, K => itM x j (stepM x c K) (K - 1)
theorem KOK.join {c : List Int} {n K i k : Nat} (h : KOK c n K) (hik : i < k) (hk : k < K) : KOK (c.map (joinV i k)) n (K - 1) := by
  refine ⟨by rw [List.length_map, h.len], fun q hq => ?_, fun b hb => ?_, by have := h.le; omega⟩
  · obtain ⟨v, hv, hvq⟩ := h.rng q hq
    rw [List.getElem?_map, hvq]
    simp only [Option.map_some, joinV]
    by_cases e : (v : Int) = (k : Int)
    · rw [if_pos e]; exact ⟨i, by omega, rfl⟩
    · rw [if_neg e]
      by_cases h2 : (k : Int) < (v : Int)
      · rw [if_pos h2]; exact ⟨v - 1, by omega, by congr 1; omega⟩
      · rw [if_neg h2]; exact ⟨v, by omega, rfl⟩
  · by_cases hbk : b < k
    · obtain ⟨q, hq, hqb⟩ := h.onto b (by omega)
      refine ⟨q, hq, ?_⟩
      rw [List.getElem?_map, hqb]
      simp only [Option.map_some, joinV]
      rw [if_neg (by omega), if_neg (by omega)]
    · obtain ⟨q, hq, hqb⟩ := h.onto (b + 1) (by omega)
      refine ⟨q, hq, ?_⟩
      rw [List.getElem?_map, hqb]
      simp only [Option.map_some, joinV]
      rw [if_neg (by omega), if_pos (by omega)]
      congr 1; omega
theorem goalB_join {x : System} {c : List Int} {n K i k : Nat} (h : KOK c n K) (hik : i < k) (hk : k < K) (hg : goalB x c i = goalB x c k) {b : Nat} (hb : b < K - 1) : goalB x (c.map (joinV i k)) b = if b < k then goalB x c b else goalB x c (b + 1) := by
  have key : ∀ q v : Nat, c[q]? = some (v : Int) → (c.map (joinV i k))[q]? = some (joinV i k (v : Int)) := fun q v hq => by rw [List.getElem?_map, hq]; rfl
  have back : ∀ q : Nat, (c.map (joinV i k))[q]? = some (b : Int) → ∃ v : Nat, c[q]? = some (v : Int) ∧ joinV i k (v : Int) = (b : Int) := by
    intro q hq
    have hqn : q < n := by have := (List.getElem?_eq_some_iff.1 hq).1; rw [List.length_map, h.len] at this; exact this
    obtain ⟨v, _, hv⟩ := h.rng q hqn
    rw [key q v hv] at hq
    exact ⟨v, hv, Option.some.inj hq⟩
  rw [Bool.eq_iff_iff]
  constructor
  · intro h1
    obtain ⟨q, h2, h3⟩ := goalB_iff.1 h1
    obtain ⟨v, hv, e⟩ := back q h2
    unfold joinV at e
    by_cases e1 : (v : Int) = (k : Int)
    · rw [if_pos e1] at e
      have hbi : b = i := by omega
      subst hbi
      rw [if_pos hik, hg]
      exact goalB_iff.2 ⟨q, by rw [hv, e1], h3⟩
    · rw [if_neg e1] at e
      by_cases e2 : (k : Int) < (v : Int)
      · rw [if_pos e2] at e
        rw [if_neg (by omega)]
        exact goalB_iff.2 ⟨q, by rw [hv]; congr 1; omega, h3⟩
      · rw [if_neg e2] at e
        rw [if_pos (by omega)]
        exact goalB_iff.2 ⟨q, by rw [hv]; congr 1, h3⟩
  · intro h1
    by_cases hbk : b < k
    · rw [if_pos hbk] at h1
      obtain ⟨q, h2, h3⟩ := goalB_iff.1 h1
      refine goalB_iff.2 ⟨q, ?_, h3⟩
      rw [key q b h2]
      unfold joinV
      rw [if_neg (by omega), if_neg (by omega)]
    · rw [if_neg hbk] at h1
      obtain ⟨q, h2, h3⟩ := goalB_iff.1 h1
      refine goalB_iff.2 ⟨q, ?_, h3⟩
      rw [key q (b + 1) h2]
      unfold joinV
      rw [if_neg (by omega), if_pos (by omega)]
      congr 1; omega
theorem itM_step {x : System} {c : List Int} {K m i k : Nat} (h : m < K) (hp : PickOr (goalB x c) K i k) : itM x (K - m) c K = itM x (K - 1 - m) (c.map (joinV i k)) (K - 1) := by
  obtain ⟨d, hd⟩ : ∃ d, K - m = d + 1 := ⟨K - m - 1, by omega⟩
  have : K - 1 - m = d := by omega
  rw [hd, this]
  simp only [itM, stepM, pk_eq hp]
/-- The loop over the classes that joins two of them. -/
theorem join_loop {c : List Int} {n K : Nat} (h : KOK c n K) (hn : n ≤ 4000000) {B : Nat → List Int → Option (List Int)} {i k : Nat}
    (hB : ∀ m l v, m < n → l.length = n → l[m]? = some ((v : Nat) : Int) → v < K → Ok (B m l) fun l' => l' = l.set m (joinV i k (v : Int))) : forS B c.length 0 c = some (c.map (joinV i k)) := by
  refine Ok.eq (Ok.forS (fun m l => l.length = n ∧ (∀ j, j < m → l[j]? = (c.map (joinV i k))[j]?) ∧ ∀ j, m ≤ j → l[j]? = c[j]?) ⟨h.len, fun j h => absurd h (Nat.not_lt_zero _), fun j _ => rfl⟩ ?_ ?_)
  · rintro m l hm ⟨h1, h2, h3⟩
    rw [h.len] at hm
    obtain ⟨v, hv, hvm⟩ := h.rng m hm
    refine (hB m l v hm h1 (by rw [h3 m (Nat.le_refl _)]; exact hvm) hv).mono ?_
    rintro l' rfl
    refine ⟨by simp [h1], fun j hj => ?_, fun j hj => by rw [List.getElem?_set_ne (by omega)]; exact h3 j (by omega)⟩
    by_cases e : j = m
    · subst e
      rw [List.getElem?_set_self (by omega), List.getElem?_map, hvm]; rfl
    · rw [List.getElem?_set_ne (Ne.symm e)]; exact h2 j (by omega)
  · rintro l ⟨h1, h2, h3⟩
    apply List.ext_getElem?
    intro j
    by_cases hj : j < c.length
    · exact h2 j hj
    · rw [List.getElem?_eq_none (by rw [h1, ← h.len]; omega), List.getElem?_eq_none (by rw [List.length_map]; omega)]
theorem most_nat (most : Int) : ∃ m : Nat, max 1 (min most 4096) = (m : Int) ∧ 1 ≤ m := ⟨(max 1 (min most 4096)).toNat, by omega, by omega⟩
theorem IsBis.kok {X : TS} {c : List Int} (h : IsBis X c) : KOK c X.n (rnk (eqL c) X.n) := h.2.2.kok (eqL_eqv c _)
theorem merge_ok {x : System} (hv : VSys x) (hs : x.States ≤ 100) (hl : x.Costs.length ≤ 100) (most : Int) : Ok (shrink_Merge_p x most) fun r => r.2 = none ∧ ∃ c0, IsBis (TSof x hv) c0 ∧ r.1 = itM x (rnk (eqL c0) x.States.toNat - (max 1 (min most 4096)).toNat) c0 (rnk (eqL c0) x.States.toNat) := by
  unfold shrink_Merge_p
  refine Ok.bind ((bisim_ok hv hs hl).mono ?_)
  rintro ⟨c, e⟩ ⟨h1, hb⟩
  simp only at h1 hb
  subst h1
  have s1 := hv.s1
  have hg := hv.g
  obtain ⟨m, hm, hm1⟩ := most_nat most
  have hK := hb.kok
  have hXn : (TSof x hv).n = x.States.toNat := rfl
  rw [hXn] at hK
  generalize hKd : rnk (eqL c) x.States.toNat = K at hK
  have hle := hK.le
  have hK1 : 1 ≤ K := by obtain ⟨k, h, _⟩ := hK.rng 0 (by omega); omega
  simp only [un2, Option.isSome_none, Bool.false_eq_true, if_false]
  rw [max_ok hK (by omega) (by omega)]
  simp only [Option.bind_some, hm]
  have hw : IntKind.i64.wrap ((K : Int) - 1 + 1) = (K : Int) := by rw [wrap_id (by omega) (by omega)]; omega
  rw [hw]
  refine Ok.step (mk_ok (by omega) (by omega)) (Ok.bind ?_)
  have hgc : ∀ i j k, i < x.States.toNat → j < x.States.toNat → c[i]? = some k → c[j]? = some k → x.Goals[i]?.getD false = x.Goals[j]?.getD false := fun i j k hi hj h1 h2 => hb.1.goal i j hi hj (show c[i]? = c[j]? by rw [h1, h2])
  refine Ok.forS (fun q (g : List Bool) => g.length = K ∧ ∀ (i k : Nat), i < q → c[i]? = some (k : Int) → g[k]? = some (x.Goals[i]?.getD false)) ⟨by simp, fun i k h => absurd h (Nat.not_lt_zero _)⟩ ?_ ?_
  · rintro q g hq ⟨h1, h2⟩
    rw [hK.len] at hq
    obtain ⟨k, hk, hkq⟩ := hK.rng q hq
    obtain ⟨y, hy⟩ := get_some (show q < x.Goals.length by omega)
    obtain ⟨z, hz⟩ := get_some (show k < g.length by omega)
    simp only [idx_nat, hkq, hy, hz, Option.bind_some]
    refine Ok.step (setI_nat (by omega)) (Ok.ret ⟨by simp [h1], fun i k' hi hik => ?_⟩)
    by_cases ek : k' = k
    · subst ek
      rw [List.getElem?_set_self (by omega)]
      by_cases ei : i = q
      · subst ei; rw [hy]; rfl
      · rw [hgc i q _ (by omega) hq hik hkq, hy]; rfl
    · rw [List.getElem?_set_ne (Ne.symm ek)]
      by_cases ei : i = q
      · subst ei; rw [hkq] at hik; simp at hik; omega
      · exact h2 i k' (by omega) hik
  · rintro g ⟨h1, h2⟩
    rw [hK.len] at h2
    have hg0 : ∀ b, b < K → g[b]? = some (goalB x c b) := by
      intro b hbK
      obtain ⟨i, hi, hib⟩ := hK.onto b hbK
      rw [h2 i b hi hib]
      congr 1
      rw [Bool.eq_iff_iff, goalB_iff]
      constructor
      · intro h
        obtain ⟨y, hy⟩ := get_some (show i < x.Goals.length by omega)
        rw [hy] at h
        simp at h
        exact ⟨i, hib, by rw [hy, h]⟩
      · rintro ⟨j, hj1, hj2⟩
        have hjn : j < x.States.toNat := by have := (List.getElem?_eq_some_iff.1 hj1).1; rw [hK.len] at this; exact this
        rw [hgc i j _ hi hjn hib hj1, hj2]; rfl
    rw [show ((m : Int)).toNat = m by omega]
    refine Ok.while (fun s : List Int × List Bool => ∃ L : Nat, s.2.length = L ∧ KOK s.1 x.States.toNat L ∧ 1 ≤ L ∧ (2 ≤ L → ∀ b, b < L → s.2[b]? = some (goalB x s.1 b)) ∧ itM x (L - m) s.1 L = itM x (K - m) c K) (fun s => s.1 = itM x (K - m) c K) (fun _ => False) (fun s => s.2.length) ⟨K, h1, hK, hK1, fun _ => hg0, rfl⟩ ?_ (fun _ h => h.elim) ?_
    · rintro ⟨l, g⟩ ⟨L, h1, h2, hL1, h3, h4⟩
      simp only at h1 h2 h3 h4
      have hLn := h2.le
      simp only [un2]
      by_cases hlt : (m : Int) < (g.length : Int)
      · simp only [hlt, decide_true, if_true]
        refine Ok.bind ((pair_ok h1 (h3 (by omega)) (by omega) (by omega)).mono ?_)
        rintro ⟨i', k'⟩ ⟨i, k, e, hp⟩
        cases e
        obtain ⟨hik, hkL⟩ := hp.lt (by omega)
        simp only [un2]
        rw [join_loop h2 (by omega) (i := i) (k := k) ?_]
        · have hw2 : IntKind.i64.wrap ((k : Int) + 1) = ((k + 1 : Nat) : Int) := by rw [wrap_id (by omega) (by omega)]; omega
          simp only [Option.bind_some, hw2]
          have hdel : delB_p g (k : Int) ((k + 1 : Nat) : Int) = some (g.take k ++ g.drop (k + 1)) := by
            unfold delB_p; rw [if_pos (by omega)]; rfl
          rw [hdel]
          have hlen : (g.take k ++ g.drop (k + 1)).length = L - 1 := by simp; omega
          simp only [Option.bind_some]
          refine ⟨_, rfl, fun s' e => ?_, fun s' e => (by cases e), fun r e => (by cases e)⟩
          cases e
          refine ⟨⟨L - 1, hlen, h2.join hik hkL, by omega, fun h b hbL => ?_, ?_⟩, by simp only; omega⟩
          · rw [goalB_join h2 hik hkL (hp.same (by omega)) hbL]
            simp only
            by_cases hbk : b < k
            · rw [if_pos hbk, List.getElem?_append_left (by simp; omega), List.getElem?_take_of_lt hbk]
              exact h3 (by omega) b (by omega)
            · rw [if_neg hbk, List.getElem?_append_right (by simp; omega), List.getElem?_drop]
              have : k + 1 + (b - (g.take k).length) = b + 1 := by simp; omega
              rw [this]
              exact h3 (by omega) (b + 1) (by omega)
          · rw [← h4, itM_step (by omega) hp]
        · intro q l' v hq hl' hv' hvL
          simp only [idx_nat, hv', Option.bind_some]
          unfold joinV
          by_cases e1 : (v : Int) = (k : Int)
          · have n1 : ¬ (k : Int) < (v : Int) := by omega
            simp only [e1, decide_true, if_true]
            rw [setI_nat (by omega)]
            simp only [Option.bind_some]
            rw [if_neg (by simp)]
            exact Ok.ret rfl
          · simp only [e1, decide_false, Bool.false_eq_true, if_false, Option.bind_some]
            by_cases e2 : (k : Int) < (v : Int)
            · simp only [e2, decide_true, if_true, hv', Option.bind_some]
              rw [setI_nat (by omega), wrap_id (by omega) (by omega)]
              exact Ok.ret rfl
            · simp only [e2, decide_false, Bool.false_eq_true, if_false, Option.bind_some]
              refine Ok.ret ?_
              apply List.ext_getElem?
              intro j
              by_cases ej : j = q
              · subst ej; rw [List.getElem?_set_self (by omega), hv']
              · rw [List.getElem?_set_ne (Ne.symm ej)]
      · simp only [hlt, decide_false, Bool.false_eq_true, if_false]
        refine ⟨_, rfl, fun s' e => (by cases e), fun s' e => ?_, fun r e => (by cases e)⟩
        cases e
        have : L - m = 0 := by omega
        rw [this] at h4
        exact h4
    · rintro ⟨l, g⟩ h
      simp only at h
      simp only [un2]
      exact Ok.ret ⟨rfl, c, hb, by rw [hKd]; exact h⟩
theorem clip_t (n : Int) : base_Clip_t n 1 4096 = max 1 (min n 4096) := by
  have h := base_Clip_tot n 1 4096
  unfold base_Clip_p at h
  exact (Option.some.inj h).symm
theorem refMerge_ok {x : System} (hv : VSys x) (most : Int) : Ok (ref45_Merge_p x most) fun r => ∃ c0, IsBis (TSof x hv) c0 ∧ r = itM x (rnk (eqL c0) x.States.toNat - (max 1 (min most 4096)).toNat) c0 (rnk (eqL c0) x.States.toNat) := by
  unfold ref45_Merge_p
  have s1 := hv.s1
  have s2 := hv.s2
  have hg := hv.g
  refine Ok.bind ((refBis_ok hv s2).mono ?_)
  intro c hb
  obtain ⟨m, hm, hm1⟩ := most_nat most
  have hK := hb.kok
  have hXn : (TSof x hv).n = x.States.toNat := rfl
  rw [hXn] at hK
  generalize hKd : rnk (eqL c) x.States.toNat = K at hK
  have hle := hK.le
  have hK1 : 1 ≤ K := by obtain ⟨k, h, _⟩ := hK.rng 0 (by omega); omega
  obtain ⟨n, hn⟩ : ∃ n : Nat, x.States = (n : Int) := ⟨x.States.toNat, by omega⟩
  have hnt : x.States.toNat = n := by omega
  rw [hnt] at hK hle hKd
  rw [hn, many_ok hK (by omega) (by omega)]
  simp only [Option.bind_some, clip_t, hm]
  rw [show ((m : Int)).toNat = m by omega, show ((n : Int)).toNat = n by omega]
  refine Ok.while (fun s : Int × List Int => ∃ L : Nat, s.1 = (L : Int) ∧ KOK s.2 n L ∧ 1 ≤ L ∧ itM x (L - m) s.2 L = itM x (K - m) c K) (fun s => s.2 = itM x (K - m) c K) (fun _ => False) (fun s => s.1.toNat) ⟨K, rfl, hK, hK1, rfl⟩ ?_ (fun _ h => h.elim) ?_
  · rintro ⟨k, l⟩ ⟨L, e, h2, hL1, h4⟩
    simp only at e h2 h4
    subst e
    have hLn := h2.le
    simp only [un2]
    by_cases hlt : (m : Int) < (L : Int)
    · simp only [hlt, decide_true, if_true]
      refine Ok.must (by simp; omega) ?_
      have hgo : ∀ b : Nat, ref45_goal_o_p x l (b : Int) = some (goalB x l b) := fun b => goal_eq h2.len (by omega) b
      refine Ok.bind (Ok.forS (fun B (s : Int × Int) => ∃ i k : Nat, s = ((k : Int), (i : Int)) ∧ PickOr (goalB x l) B i k) ⟨0, 1, rfl, .inr ⟨fun a b _ hb => absurd hb (Nat.not_lt_zero _), rfl, rfl⟩⟩ ?_ ?_)
      · rintro B ⟨k', i'⟩ hB ⟨i, k, e, hp⟩
        cases e
        simp only [un2]
        refine Ok.must (by simp; omega) ?_
        refine Ok.bind (Ok.forS (fun A (s : Int × Int) => (∃ i k : Nat, s = ((k : Int), (i : Int)) ∧ ((IsPick (goalB x l) (B + 1) i k ∧ k = B ∧ ∀ a, a < A → goalB x l a = goalB x l B → a ≤ i) ∨ (PickOr (goalB x l) B i k ∧ ∀ a, a < A → goalB x l a ≠ goalB x l B))) ∨ (∃ i k : Nat, s = ((k : Int), (i : Int)) ∧ k = B ∧ i < A ∧ A ≤ B ∧ goalB x l i = goalB x l B ∧ ∀ a, a < A → goalB x l a = goalB x l B → a ≤ i)) (.inl ⟨i, k, rfl, .inr ⟨hp, fun a h => absurd h (Nat.not_lt_zero _)⟩⟩) ?_ ?_)
        · rintro A ⟨k'', i''⟩ hA hI
          have hAB : A < B := by omega
          simp only [un2, hgo, Option.bind_some]
          by_cases e : goalB x l A = goalB x l B
          · simp only [e, beq_self_eq_true, if_true, Option.bind_some, un2]
            exact Ok.ret (.inr ⟨A, B, rfl, rfl, by omega, by omega, e, fun a ha _ => by omega⟩)
          · have hne : (goalB x l A == goalB x l B) = false := by simpa using e
            simp only [hne, Bool.false_eq_true, if_false, Option.bind_some, un2]
            refine Ok.ret ?_
            rcases hI with ⟨i, k, e2, h⟩ | ⟨i, k, e2, h1, h2, h3, h4, h5⟩
            · left
              refine ⟨i, k, e2, ?_⟩
              rcases h with ⟨h1, h2, h3⟩ | ⟨h1, h2⟩
              · exact .inl ⟨h1, h2, fun a ha hh => by
                  by_cases ea : a = A
                  · subst ea; exact absurd hh e
                  · exact h3 a (by omega) hh⟩
              · exact .inr ⟨h1, fun a ha => by
                  by_cases ea : a = A
                  · subst ea; exact e
                  · exact h2 a (by omega)⟩
            · right
              exact ⟨i, k, e2, h1, by omega, by omega, h4, fun a ha hh => by
                by_cases ea : a = A
                · subst ea; exact absurd hh e
                · exact h5 a (by omega) hh⟩
        · rintro ⟨k'', i''⟩ hI
          rw [show ((B : Int)).toNat = B by omega] at hI
          simp only [un2]
          refine Ok.ret ?_
          rcases hI with ⟨i, k, e2, h⟩ | ⟨i, k, e2, h1, h2, h3, h4, h5⟩
          · refine ⟨i, k, e2, ?_⟩
            rcases h with ⟨h1, h2, h3⟩ | ⟨h1, h2⟩
            · exact .inl h1
            · rcases h1 with ⟨a1, a2, a3, a4⟩ | ⟨a1, a2, a3⟩
              · refine .inl ⟨a1, by omega, a3, fun a b hab hb hh => ?_⟩
                by_cases eb : b = B
                · subst eb; exact absurd hh (h2 a hab)
                · exact a4 a b hab (by omega) hh
              · refine .inr ⟨fun a b hab hb hh => ?_, a2, a3⟩
                by_cases eb : b = B
                · subst eb; exact absurd hh (h2 a hab)
                · exact absurd hh (a1 a b hab (by omega))
          · subst h1
            exact ⟨i, k, e2, .inl ⟨h2, by omega, h4, fun a b hab hb hh => ⟨by omega, fun eb => by subst eb; exact h5 a hab hh⟩⟩⟩
      · rintro ⟨k', i'⟩ ⟨i, k, e, hp⟩
        rw [show ((L : Int)).toNat = L by omega] at hp
        cases e
        obtain ⟨hik, hkL⟩ := hp.lt (by omega)
        simp only [un2]
        rw [join_loop h2 (by omega) (i := i) (k := k) ?_]
        · simp only [Option.bind_some]
          rw [wrap_id (by omega) (by omega)]
          refine ⟨_, rfl, fun s' e => ?_, fun s' e => (by cases e), fun r e => (by cases e)⟩
          cases e
          refine ⟨⟨L - 1, by simp only; omega, h2.join hik hkL, by omega, ?_⟩, by simp only; omega⟩
          rw [← h4, itM_step (by omega) hp]
        · intro q l' v hq hl' hv' hvL
          simp only [idx_nat, hv', Option.bind_some]
          unfold joinV
          by_cases e1 : (v : Int) = (k : Int)
          · simp only [e1, decide_true, if_true]
            rw [setI_nat (by omega)]
            exact Ok.ret rfl
          · simp only [e1, decide_false, Bool.false_eq_true, if_false, Option.bind_some]
            by_cases e2 : (k : Int) < (v : Int)
            · simp only [e2, decide_true, if_true, hv', Option.bind_some]
              rw [setI_nat (by omega), wrap_id (by omega) (by omega)]
              exact Ok.ret rfl
            · simp only [e2, decide_false, Bool.false_eq_true, if_false, Option.bind_some]
              refine Ok.ret ?_
              apply List.ext_getElem?
              intro j
              by_cases ej : j = q
              · subst ej; rw [List.getElem?_set_self (by omega), hv']
              · rw [List.getElem?_set_ne (Ne.symm ej)]
    · simp only [hlt, decide_false, Bool.false_eq_true, if_false]
      refine ⟨_, rfl, fun s' e => (by cases e), fun s' e => ?_, fun r e => (by cases e)⟩
      cases e
      have : L - m = 0 := by omega
      rw [this] at h4
      exact h4
  · rintro ⟨k, l⟩ h
    simp only at h
    simp only [un2]
    exact Ok.ret ⟨c, hb, by rw [hKd]; exact h⟩
end Go.Pw
