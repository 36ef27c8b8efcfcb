/- -/
import Derived.Test.YtcpkjkmbdolfnaaGreatDoorMbTa
import Derived.Test.YtcpkjkmbdolfnaaGreatDoorBB
set_option maxHeartbeats 4000000
set_option maxRecDepth 100000
set_option linter.unusedSimpArgs false
set_option linter.unusedVariables false
namespace Go.Pw
/-! ### classes and their number -/
structure KOK (c : List Int) (n K : Nat) : Prop where
 len : c.length = n
 rng : ∀ i, i < n → ∃ k : Nat, k < K ∧ c[i]? = some (k : Int)
 onto : ∀ b, b < K → ∃ i, i < n ∧ c[i]? = some (b : Int)
 le : K ≤ n
theorem QiS (R : Rel) : ∀ n b, b < Yw R n → ∃ r, r < n ∧ Kt R r ∧ Yw R r = b
 | 0, b, h => by simp [Yw] at h
 | n + 1, b, h => by
  by_cases hb : b < Yw R n
  ·obtain ⟨r, h1, h2, h3⟩ := QiS R n b hb
   exact ⟨r, by omega, h2, h3⟩
  ·rw [Qbh] at h
   by_cases hr : Kt R n
   ·simp only [hr, if_true] at h
    exact ⟨n, by omega, hr, by omega⟩
   ·simp only [hr, if_false] at h; omega
theorem ClsL.kok {R : Rel} {n : Nat} {c : List Int} (hE : Eqv n R) (h : ClsL R n c) : KOK c n (Yw R n) := by
 refine ⟨h.1, fun i hi => ?_, fun b hb => ?_, rnk_le R n⟩
 ·obtain ⟨k, h1, h2⟩ := h.2 i hi
  exact ⟨k, QlZ hi h2, h1⟩
 ·obtain ⟨r, h1, h2, h3⟩ := QiS R n b hb
  obtain ⟨k, h4, h5⟩ := h.2 r h1
  have := QeA hE h1 h5 ⟨r, Nat.le_refl _, hE.refl r h1, h2, rfl⟩
  exact ⟨r, h1, by rw [h4, this, h3]⟩
theorem QlU {c : List Int} {n K : Nat} (h : KOK c n K) (hn : 0 < n) (hn2 : n ≤ 4000000) : Jo c = some ((K : Int) - 1) := by
 unfold Jo
 have hl := h.len
 rw [if_neg (by simp; omega)]
 obtain ⟨k0, hk0, h0⟩ := h.rng 0 hn
 have hle := h.le
 simp only [Option.bind_some, show ((0 : Int)) = ((0 : Nat) : Int) from rfl, Qn, h0]
 have hfirst : ∀ (j : Nat) (k : Int), j < 1 → c[j]? = some k → k ≤ (k0 : Int) := by
  intro j k hj hk
  have : j = 0 := by omega
  subst this
  rw [h0] at hk
  cases hk
  omega
 refine Ok.eq (K3 (fun s : Int × Int => ∃ i : Nat, s.2 = (i : Int) ∧ 1 ≤ i ∧ i ≤ n ∧ (∃ j, j < i ∧ c[j]? = some s.1) ∧ ∀ j k, j < i → c[j]? = some k → k ≤ s.1) (fun s => (∃ j, j < n ∧ c[j]? = some s.1) ∧ ∀ j k, j < n → c[j]? = some k → k ≤ s.1) (fun _ => False) (fun s => n - s.2.toNat)
  ⟨1, rfl, Nat.le_refl _, hn, ⟨0, by omega, h0⟩, hfirst⟩ ?_ (fun _ h => h.elim) ?_)
 ·rintro ⟨m, i'⟩ ⟨i, e, h1, h2, ⟨j0, hj0, hj1⟩, h4⟩
  simp only at e hj1 h4
  subst e
  simp only [QM]
  by_cases hlt : (i : Int) < (c.length : Int)
  ·obtain ⟨k, hk, hki⟩ := h.rng i (by omega)
   simp only [hlt, decide_true, if_true, Qn, hki, Option.bind_some]
   rw [QA (by omega) (by omega)]
   refine ⟨_, Z, fun s' e => ?_, fun s' e => (by cases e), fun r e => (by cases e)⟩
   cases e
   refine ⟨⟨i + 1, by simp, by omega, by omega, ?_, ?_⟩, by simp only; omega⟩
   ·by_cases hm : m ≤ (k : Int)
    ·exact ⟨i, by omega, by rw [hki]; simp only; rw [Int.max_eq_right hm]⟩
    ·exact ⟨j0, by omega, by rw [hj1]; simp only; rw [Int.max_eq_left (by omega)]⟩
   ·intro j k' hj hk'
    simp only
    by_cases e : j = i
    ·subst e; rw [hki] at hk'; cases hk'; omega
    ·have := h4 j k' (by omega) hk'; omega
  ·simp only [hlt, decide_false, Bool.false_eq_true, if_false]
   refine ⟨_, Z, fun s' e => (by cases e), fun s' e => ?_, fun r e => (by cases e)⟩
   cases e
   have : i = n := by omega
   subst this
   exact ⟨⟨j0, hj0, hj1⟩, h4⟩
 ·rintro ⟨m, i⟩ ⟨⟨j, h1, h2⟩, h3⟩
  simp only at h2 h3
  simp only [QM]
  refine Ok.ret ?_
  obtain ⟨k, hk, hkj⟩ := h.rng j h1
  rw [hkj] at h2; cases h2
  obtain ⟨q, hq, hqq⟩ := h.onto (K - 1) (by omega)
  have := h3 q _ hq hqq
  omega
theorem Qil {c : List Int} {n K : Nat} (h : KOK c n K) (hn : 0 < n) (hn2 : n ≤ 4000000) : JR c (n : Int) = some (K : Int) := by
 unfold JR
 have hl := h.len
 have hle := h.le
 rw [if_neg (by simp; omega)]
 refine Ok.eq (Ok.ctl (fun m (k : Int) => (∀ j v, j < m → c[j]? = some v → v < k) ∧ (k = 0 ∧ m = 0 ∨ ∃ j, j < m ∧ c[j]? = some (k - 1))) (fun _ => False) ⟨fun j v h => absurd h (Nat.not_lt_zero _), .inl ⟨Z, Z⟩⟩ ?_ (fun _ h => h.elim) ?_)
 ·rintro m k hm ⟨h1, h2⟩
  obtain ⟨v, hv, hvm⟩ := h.rng m (by omega)
  simp only [Qn, hvm, Option.bind_some]
  have n1 : ¬ (v : Int) < 0 := by omega
  have n2 : ¬ (n : Int) ≤ (v : Int) := by omega
  simp only [n1, n2, decide_false, Bool.or_self, Bool.false_eq_true, if_false]
  rw [QA (by omega) (by omega)]
  refine Ok.ret ⟨fun j w hj hw => ?_, .inr ?_⟩
  ·by_cases e : j = m
   ·subst e; rw [hvm] at hw; cases hw; omega
   ·have := h1 j w (by omega) hw; omega
  ·by_cases hkv : k ≤ (v : Int) + 1
   ·exact ⟨m, by omega, by rw [hvm, Int.max_eq_right hkv]; simp⟩
   ·rcases h2 with ⟨rfl, rfl⟩ | ⟨j, hj, hj2⟩
    ·omega
    ·exact ⟨j, by omega, by rw [hj2, Int.max_eq_left (by omega)]⟩
 ·rintro k ⟨h1, h2⟩
  rw [hl] at h1 h2
  have hk : k = (K : Int) := by
   rcases h2 with ⟨_, rfl⟩ | ⟨j, hj, hj2⟩
   ·omega
   ·obtain ⟨v, hv, hvj⟩ := h.rng j hj
    rw [hvj] at hj2
    simp only [Option.some.injEq] at hj2
    obtain ⟨q, hq, hqq⟩ := h.onto (K - 1) (by omega)
    have := h1 q _ hq hqq
    omega
  subst hk
  refine Ok.must (by simp; omega) ?_
  refine Ok.ctl (fun _ _ => True) (fun _ => False) trivial ?_ (fun _ h => h.elim) ?_
  ·rintro b _ hb _
   have hbK : b < K := by omega
   refine Ok.ctl (fun m (is : Bool) => is = true ↔ ∃ j, j < m ∧ c[j]? = some (b : Int)) (fun _ => False) (by simp) ?_ (fun _ h => h.elim) ?_
   ·rintro m is hm hI
    obtain ⟨v, hv, hvm⟩ := h.rng m (by omega)
    simp only [Qn, hvm, Option.bind_some]
    have n1 : ¬ (v : Int) < 0 := by omega
    simp only [n1, decide_false, Bool.false_eq_true, if_false]
    refine Ok.ret ?_
    show (is || decide ((v : Int) = (b : Int))) = true ↔ _
    rw [Bool.or_eq_true, hI, decide_eq_true_eq]
    constructor
    ·rintro (⟨j, h1, h2⟩ | e)
     ·exact ⟨j, by omega, h2⟩
     ·exact ⟨m, by omega, by rw [hvm, e]⟩
    ·rintro ⟨j, h1, h2⟩
     by_cases e : j = m
     ·subst e; rw [hvm] at h2; cases h2; exact .inr rfl
     ·exact .inl ⟨j, by omega, h2⟩
   ·rintro is hI
    rw [hl] at hI
    have : is = true := hI.2 (h.onto b hbK)
    subst this
    exact Ok.ret trivial
  ·rintro _ _
   refine Ok.ctl (fun _ _ => True) (fun _ => False) trivial ?_ (fun _ h => h.elim) (fun _ _ => Ok.ret Z)
   rintro m _ hm _
   obtain ⟨v, hv, hvm⟩ := h.rng m (by omega)
   have n1 : ¬ (v : Int) < 0 := by omega
   simp only [Qn, hvm, Option.bind_some, n1, decide_false, Bool.false_eq_true, if_false]
   exact Ok.ret trivial
/-! ### goals of classes, the pair to be joined -/
open Classical in
noncomputable def JX (x : System) (c : List Int) (b : Nat) : Bool := decide (∃ i : Nat, c[i]? = some (b : Int) ∧ x.Goals[i]? = some true)
theorem JZ {x : System} {c : List Int} {b : Nat} : JX x c b = true ↔ ∃ i : Nat, c[i]? = some (b : Int) ∧ x.Goals[i]? = some true := by unfold JX; simp
theorem Qnj {x : System} {c : List Int} {n : Nat} (hc : c.length = n) (hg : x.Goals.length = n) (b : Nat) : K5 x c (b : Int) = some (JX x c b) := by
 unfold K5
 rw [YF (p := fun i => !(decide (c[i]? = some (b : Int)) && decide (x.Goals[i]? = some true))) (r := true) ?_]
 ·by_cases h : JX x c b = true
  ·rw [h, if_neg]
   intro hall
   obtain ⟨i, h1, h2⟩ := JZ.1 h
   have := List.all_eq_true.1 hall i (by have := (List.getElem?_eq_some_iff.1 h1).1; simpa using this)
   simp [h1, h2] at this
  ·have hf : JX x c b = false := by simpa using h
   rw [hf, if_pos]
   refine List.all_eq_true.2 fun i hi => ?_
   by_cases h1 : c[i]? = some (b : Int)
   ·by_cases h2 : x.Goals[i]? = some true
    ·exact absurd (JZ.2 ⟨i, h1, h2⟩) h
    ·simp [h2]
   ·simp [h1]
 ·intro j hj
  obtain ⟨v, hv⟩ := QY hj
  obtain ⟨g, hgj⟩ := QY (show j < x.Goals.length by omega)
  simp only [Qn, hv, hgj, Option.bind_some, Option.some.injEq]
  by_cases e : v = (b : Int)
  ·cases g <;> simp [e]
  ·simp [e]
def Qie (g : Nat → Bool) (K i k : Nat) : Prop := i < k ∧ k < K ∧ g i = g k ∧ ∀ a b, a < b → b < K → g a = g b → b ≤ k ∧ (b = k → a ≤ i)
def PickOr (g : Nat → Bool) (K i k : Nat) : Prop := Qie g K i k ∨ ((∀ a b, a < b → b < K → g a ≠ g b) ∧ i = 0 ∧ k = 1)
theorem PickOr.uniq {g : Nat → Bool} {K i k i' k' : Nat} (h : PickOr g K i k) (h' : PickOr g K i' k') : i = i' ∧ k = k' := by
 rcases h with ⟨a1, a2, a3, a4⟩ | ⟨a1, rfl, rfl⟩
 ·rcases h' with ⟨b1, b2, b3, b4⟩ | ⟨b1, rfl, rfl⟩
  ·have h1 := a4 i' k' b1 b2 b3
   have h2 := b4 i k a1 a2 a3
   have : k = k' := by omega
   subst this
   exact ⟨by have := h1.2 Z; have := h2.2 Z; omega, Z⟩
  ·exact absurd a3 (b1 i k a1 a2)
 ·rcases h' with ⟨b1, b2, b3, b4⟩ | ⟨b1, rfl, rfl⟩
  ·exact absurd b3 (a1 i' k' b1 b2)
  ·exact ⟨Z, Z⟩
theorem PickOr.lt {g : Nat → Bool} {K i k : Nat} (h : PickOr g K i k) (hK : 2 ≤ K) : i < k ∧ k < K := by
 rcases h with ⟨a1, a2, _⟩ | ⟨_, rfl, rfl⟩
 ·exact ⟨a1, a2⟩
 ·omega
theorem PickOr.same {g : Nat → Bool} {K i k : Nat} (h : PickOr g K i k) (hK : 3 ≤ K) : g i = g k := by
 rcases h with ⟨_, _, a3, _⟩ | ⟨h, rfl, rfl⟩
 ·exact a3
 ·have h1 := h 0 1 (by omega) (by omega)
  have h2 := h 0 2 (by omega) (by omega)
  have h3 := h 1 2 (by omega) (by omega)
  revert h1 h2 h3
  cases g 0 <;> cases g 1 <;> cases g 2 <;> simp
theorem Qk9 {goals : List Bool} {K : Nat} {g : Nat → Bool} (hl : goals.length = K) (hg : ∀ b, b < K → goals[b]? = some (g b)) (hK : 2 ≤ K) (hK2 : K ≤ 4000000) : Ok (Yk goals) fun r => ∃ i k : Nat, r = ((i : Int), (k : Int)) ∧ PickOr g K i k := by
 unfold Yk
 have hw0 : IntKind.i64.wrap ((goals.length : Int) - 1) = ((K - 1 : Nat) : Int) := by rw [QA (by omega) (by omega)]; omega
 rw [hw0]
 refine K3 (fun k : Int => ∃ q : Nat, k = (q : Int) ∧ q < K ∧ ∀ a b, a < b → b < K → q < b → g a ≠ g b) (fun _ => ∀ a b, a < b → b < K → g a ≠ g b) (fun r => ∃ i k : Nat, r = ((i : Int), (k : Int)) ∧ Qie g K i k) (fun k => k.toNat) ⟨K - 1, Z, by omega, fun a b _ hb h => by omega⟩ ?_ ?_ ?_
 ·rintro k ⟨q, rfl, hq, hno⟩
  by_cases h0 : (0 : Int) < (q : Int)
  ·simp only [h0, decide_true, if_true]
   have hw1 : IntKind.i64.wrap ((q : Int) - 1) = ((q - 1 : Nat) : Int) := by rw [QA (by omega) (by omega)]; omega
   rw [hw1]
   refine (K3 (fun i : Int => ∃ p : Nat, i = (p : Int) - 1 ∧ p ≤ q ∧ ∀ a, p ≤ a → a < q → g a ≠ g q) (fun _ => ∀ a, a < q → g a ≠ g q) (fun r => ∃ i k : Nat, r = ((i : Int), (k : Int)) ∧ Qie g K i k) (fun i => (i + 1).toNat) ⟨q, by omega, Nat.le_refl _, fun a h1 h2 => by omega⟩ ?_ ?_ ?_).mono fun c hc => hc
   ·rintro i ⟨p, rfl, hp, hno2⟩
    by_cases h1 : (0 : Int) ≤ (p : Int) - 1
    ·simp only [h1, decide_true, if_true]
     have e1 : (p : Int) - 1 = ((p - 1 : Nat) : Int) := by omega
     have e2 : IntKind.i64.wrap (((p - 1 : Nat) : Int) - 1) = ((p - 1 : Nat) : Int) - 1 := QA (by omega) (by omega)
     rw [e1]
     simp only [Qn, hg (p - 1) (by omega), hg q hq, Option.bind_some, e2]
     by_cases e : g (p - 1) = g q
     ·simp only [e, beq_self_eq_true, if_true]
      refine ⟨_, Z, fun s' e => (by cases e), fun s' e => (by cases e), fun r e' => ?_⟩
      cases e'
      refine ⟨p - 1, q, Z, by omega, hq, e, fun a b hab hb hgab => ⟨?_, fun hbq => ?_⟩⟩
      ·rcases Nat.lt_or_ge q b with h | h
       ·exact absurd hgab (hno a b hab hb h)
       ·exact h
      ·subst hbq
       rcases Nat.lt_or_ge (p - 1) a with h | h
       ·exact absurd hgab (hno2 a (by omega) hab)
       ·exact h
     ·have hne : (g (p - 1) == g q) = false := by simpa using e
      simp only [hne, Bool.false_eq_true, if_false]
      refine ⟨_, Z, fun s' e' => ?_, fun s' e => (by cases e), fun r e => (by cases e)⟩
      cases e'
      refine ⟨⟨p - 1, Z, by omega, fun a h2 h3 => ?_⟩, by omega⟩
      by_cases ea : a = p - 1
      ·subst ea; exact e
      ·exact hno2 a (by omega) h3
    ·simp only [h1, decide_false, Bool.false_eq_true, if_false]
     refine ⟨_, Z, fun s' e => (by cases e), fun s' e => ?_, fun r e => (by cases e)⟩
     have : p = 0 := by omega
     subst this
     exact fun a ha => hno2 a (by omega) ha
   ·rintro r hr
    refine ⟨_, Z, fun s' e => (by cases e), fun s' e => (by cases e), fun r' e => ?_⟩
    cases e
    exact hr
   ·rintro _ hno2
    refine ⟨_, Z, fun s' e => ?_, fun s' e => (by cases e), fun r e => (by cases e)⟩
    cases e
    refine ⟨⟨q - 1, Z, by omega, fun a b hab hb hqb => ?_⟩, by omega⟩
    by_cases e : b = q
    ·subst e; exact hno2 a hab
    ·exact hno a b hab hb (by omega)
  ·simp only [h0, decide_false, Bool.false_eq_true, if_false]
   refine ⟨_, Z, fun s' e => (by cases e), fun s' e => ?_, fun r e => (by cases e)⟩
   exact fun a b hab hb => hno a b hab hb (by omega)
 ·rintro r ⟨i, k, rfl, h⟩
  exact Ok.ret ⟨i, k, Z, .inl h⟩
 ·rintro _ h
  exact Ok.ret ⟨0, 1, Z, .inr ⟨h, Z, Z⟩⟩
/-! ### joining -/
def Qax (i k : Nat) (v : Int) : Int := if v = (k : Int) then (i : Int) else if (k : Int) < v then v - 1 else v
noncomputable def pk (x : System) (c : List Int) (K : Nat) : Nat × Nat := Classical.epsilon fun p : Nat × Nat => PickOr (JX x c) K p.1 p.2
theorem Qn4 {x : System} {c : List Int} {K i k : Nat} (h : PickOr (JX x c) K i k) : pk x c K = (i, k) := by
 have h1 : PickOr (JX x c) K (pk x c K).1 (pk x c K).2 := Classical.epsilon_spec (p := fun p : Nat × Nat => PickOr (JX x c) K p.1 p.2) ⟨(i, k), h⟩
 obtain ⟨e1, e2⟩ := h1.uniq h
 exact Prod.ext e1 e2
noncomputable def Qkv (x : System) (c : List Int) (K : Nat) : List Int := c.map (Qax (pk x c K).1 (pk x c K).2)
noncomputable def itM (x : System) : Nat → List Int → Nat → List Int
 | 0, c, _ => c
 | j + 1, c, K => itM x j (Qkv x c K) (K - 1)
theorem KOK.join {c : List Int} {n K i k : Nat} (h : KOK c n K) (hik : i < k) (hk : k < K) : KOK (c.map (Qax i k)) n (K - 1) := by
 refine ⟨by rw [List.length_map, h.len], fun q hq => ?_, fun b hb => ?_, by have := h.le; omega⟩
 ·obtain ⟨v, hv, hvq⟩ := h.rng q hq
  rw [List.getElem?_map, hvq]
  simp only [Option.map_some, Qax]
  by_cases e : (v : Int) = (k : Int)
  ·rw [if_pos e]; exact ⟨i, by omega, rfl⟩
  ·rw [if_neg e]
   by_cases h2 : (k : Int) < (v : Int)
   ·rw [if_pos h2]; exact ⟨v - 1, by omega, by congr 1; omega⟩
   ·rw [if_neg h2]; exact ⟨v, by omega, rfl⟩
 ·by_cases hbk : b < k
  ·obtain ⟨q, hq, hqb⟩ := h.onto b (by omega)
   refine ⟨q, hq, ?_⟩
   rw [List.getElem?_map, hqb]
   simp only [Option.map_some, Qax]
   rw [if_neg (by omega), if_neg (by omega)]
  ·obtain ⟨q, hq, hqb⟩ := h.onto (b + 1) (by omega)
   refine ⟨q, hq, ?_⟩
   rw [List.getElem?_map, hqb]
   simp only [Option.map_some, Qax]
   rw [if_neg (by omega), if_pos (by omega)]
   congr 1; omega
theorem Qkh {x : System} {c : List Int} {n K i k : Nat} (h : KOK c n K) (hik : i < k) (hk : k < K) (hg : JX x c i = JX x c k) {b : Nat} (hb : b < K - 1) : JX x (c.map (Qax i k)) b = if b < k then JX x c b else JX x c (b + 1) := by
 have key : ∀ q v : Nat, c[q]? = some (v : Int) → (c.map (Qax i k))[q]? = some (Qax i k (v : Int)) := fun q v hq => by rw [List.getElem?_map, hq]; rfl
 have back : ∀ q : Nat, (c.map (Qax i k))[q]? = some (b : Int) → ∃ v : Nat, c[q]? = some (v : Int) ∧ Qax i k (v : Int) = (b : Int) := by
  intro q hq
  have hqn : q < n := by have := (List.getElem?_eq_some_iff.1 hq).1; rw [List.length_map, h.len] at this; exact this
  obtain ⟨v, _, hv⟩ := h.rng q hqn
  rw [key q v hv] at hq
  exact ⟨v, hv, Zu hq⟩
 rw [Bool.eq_iff_iff]
 constructor
 ·intro h1
  obtain ⟨q, h2, h3⟩ := JZ.1 h1
  obtain ⟨v, hv, e⟩ := back q h2
  unfold Qax at e
  by_cases e1 : (v : Int) = (k : Int)
  ·rw [if_pos e1] at e
   have hbi : b = i := by omega
   subst hbi
   rw [if_pos hik, hg]
   exact JZ.2 ⟨q, by rw [hv, e1], h3⟩
  ·rw [if_neg e1] at e
   by_cases e2 : (k : Int) < (v : Int)
   ·rw [if_pos e2] at e
    rw [if_neg (by omega)]
    exact JZ.2 ⟨q, by rw [hv]; congr 1; omega, h3⟩
   ·rw [if_neg e2] at e
    rw [if_pos (by omega)]
    exact JZ.2 ⟨q, by rw [hv]; congr 1, h3⟩
 ·intro h1
  by_cases hbk : b < k
  ·rw [if_pos hbk] at h1
   obtain ⟨q, h2, h3⟩ := JZ.1 h1
   refine JZ.2 ⟨q, ?_, h3⟩
   rw [key q b h2]
   unfold Qax
   rw [if_neg (by omega), if_neg (by omega)]
  ·rw [if_neg hbk] at h1
   obtain ⟨q, h2, h3⟩ := JZ.1 h1
   refine JZ.2 ⟨q, ?_, h3⟩
   rw [key q (b + 1) h2]
   unfold Qax
   rw [if_neg (by omega), if_pos (by omega)]
   congr 1; omega
theorem Qje {x : System} {c : List Int} {K m i k : Nat} (h : m < K) (hp : PickOr (JX x c) K i k) : itM x (K - m) c K = itM x (K - 1 - m) (c.map (Qax i k)) (K - 1) := by
 obtain ⟨d, hd⟩ : ∃ d, K - m = d + 1 := ⟨K - m - 1, by omega⟩
 have : K - 1 - m = d := by omega
 rw [hd, this]
 simp only [itM, Qkv, Qn4 hp]
theorem QhK {c : List Int} {n K : Nat} (h : KOK c n K) (hn : n ≤ 4000000) {B : Nat → List Int → Option (List Int)} {i k : Nat}
  (hB : ∀ m l v, m < n → l.length = n → l[m]? = some ((v : Nat) : Int) → v < K → Ok (B m l) fun l' => l' = l.set m (Qax i k (v : Int))) : forS B c.length 0 c = some (c.map (Qax i k)) := by
 refine Ok.eq (QO (fun m l => l.length = n ∧ (∀ j, j < m → l[j]? = (c.map (Qax i k))[j]?) ∧ ∀ j, m ≤ j → l[j]? = c[j]?) ⟨h.len, fun j h => absurd h (Nat.not_lt_zero _), fun j _ => rfl⟩ ?_ ?_)
 ·rintro m l hm ⟨h1, h2, h3⟩
  rw [h.len] at hm
  obtain ⟨v, hv, hvm⟩ := h.rng m hm
  refine (hB m l v hm h1 (by rw [h3 m (Nat.le_refl _)]; exact hvm) hv).mono ?_
  rintro l' rfl
  refine ⟨by simp [h1], fun j hj => ?_, fun j hj => by rw [List.getElem?_set_ne (by omega)]; exact h3 j (by omega)⟩
  by_cases e : j = m
  ·subst e
   rw [List.getElem?_set_self (by omega), List.getElem?_map, hvm]; rfl
  ·rw [List.getElem?_set_ne (Ne.symm e)]; exact h2 j (by omega)
 ·rintro l ⟨h1, h2, h3⟩
  apply List.ext_getElem?
  intro j
  by_cases hj : j < c.length
  ·exact h2 j hj
  ·rw [List.getElem?_eq_none (by rw [h1, ← h.len]; omega), List.getElem?_eq_none (by rw [List.length_map]; omega)]
theorem Qe4 (most : Int) : ∃ m : Nat, max 1 (min most 4096) = (m : Int) ∧ 1 ≤ m := ⟨(max 1 (min most 4096)).toNat, by omega, by omega⟩
theorem IsBis.kok {X : TS} {c : List Int} (h : IsBis X c) : KOK c X.n (Yw (eqL c) X.n) := h.2.2.kok (Kj c _)
theorem Qjc {x : System} (hv : VSys x) (hs : x.States ≤ 100) (hl : x.Costs.length ≤ 100) (most : Int) : Ok (Y7 x most) fun r => r.2 = none ∧ ∃ c0, IsBis (Kw x hv) c0 ∧ r.1 = itM x (Yw (eqL c0) x.States.toNat - (max 1 (min most 4096)).toNat) c0 (Yw (eqL c0) x.States.toNat) := by
 unfold Y7
 refine Ok.bind ((Qg2 hv hs hl).mono ?_)
 rintro ⟨c, e⟩ ⟨h1, hb⟩
 simp only at h1 hb
 subst h1
 have s1 := hv.s1
 have hg := hv.g
 obtain ⟨m, hm, hm1⟩ := Qe4 most
 have hK := hb.kok
 have hXn : (Kw x hv).n = x.States.toNat := rfl
 rw [hXn] at hK
 generalize hKd : Yw (eqL c) x.States.toNat = K at hK
 have hle := hK.le
 have hK1 : 1 ≤ K := by obtain ⟨k, h, _⟩ := hK.rng 0 (by omega); omega
 simp only [QM, Option.isSome_none, Bool.false_eq_true, if_false]
 rw [QlU hK (by omega) (by omega)]
 simp only [Option.bind_some, hm]
 have hw : IntKind.i64.wrap ((K : Int) - 1 + 1) = (K : Int) := by rw [QA (by omega) (by omega)]; omega
 rw [hw]
 refine Ok.step (Qb0 (by omega) (by omega)) (Ok.bind ?_)
 have hgc : ∀ i j k, i < x.States.toNat → j < x.States.toNat → c[i]? = some k → c[j]? = some k → x.Goals[i]?.getD false = x.Goals[j]?.getD false := fun i j k hi hj h1 h2 => hb.1.goal i j hi hj (show c[i]? = c[j]? by rw [h1, h2])
 refine QO (fun q (g : List Bool) => g.length = K ∧ ∀ (i k : Nat), i < q → c[i]? = some (k : Int) → g[k]? = some (x.Goals[i]?.getD false)) ⟨by simp, fun i k h => absurd h (Nat.not_lt_zero _)⟩ ?_ ?_
 ·rintro q g hq ⟨h1, h2⟩
  rw [hK.len] at hq
  obtain ⟨k, hk, hkq⟩ := hK.rng q hq
  obtain ⟨y, hy⟩ := QY (show q < x.Goals.length by omega)
  obtain ⟨z, hz⟩ := QY (show k < g.length by omega)
  simp only [Qn, hkq, hy, hz, Option.bind_some]
  refine Ok.step (QX (by omega)) (Ok.ret ⟨by simp [h1], fun i k' hi hik => ?_⟩)
  by_cases ek : k' = k
  ·subst ek
   rw [List.getElem?_set_self (by omega)]
   by_cases ei : i = q
   ·subst ei; rw [hy]; rfl
   ·rw [hgc i q _ (by omega) hq hik hkq, hy]; rfl
  ·rw [List.getElem?_set_ne (Ne.symm ek)]
   by_cases ei : i = q
   ·subst ei; rw [hkq] at hik; simp at hik; omega
   ·exact h2 i k' (by omega) hik
 ·rintro g ⟨h1, h2⟩
  rw [hK.len] at h2
  have hg0 : ∀ b, b < K → g[b]? = some (JX x c b) := by
   intro b hbK
   obtain ⟨i, hi, hib⟩ := hK.onto b hbK
   rw [h2 i b hi hib]
   congr 1
   rw [Bool.eq_iff_iff, JZ]
   constructor
   ·intro h
    obtain ⟨y, hy⟩ := QY (show i < x.Goals.length by omega)
    rw [hy] at h
    simp at h
    exact ⟨i, hib, by rw [hy, h]⟩
   ·rintro ⟨j, hj1, hj2⟩
    have hjn : j < x.States.toNat := by have := (List.getElem?_eq_some_iff.1 hj1).1; rw [hK.len] at this; exact this
    rw [hgc i j _ hi hjn hib hj1, hj2]; rfl
  rw [show ((m : Int)).toNat = m by omega]
  refine K3 (fun s : List Int × List Bool => ∃ L : Nat, s.2.length = L ∧ KOK s.1 x.States.toNat L ∧ 1 ≤ L ∧ (2 ≤ L → ∀ b, b < L → s.2[b]? = some (JX x s.1 b)) ∧ itM x (L - m) s.1 L = itM x (K - m) c K) (fun s => s.1 = itM x (K - m) c K) (fun _ => False) (fun s => s.2.length) ⟨K, h1, hK, hK1, fun _ => hg0, Z⟩ ?_ (fun _ h => h.elim) ?_
  ·rintro ⟨l, g⟩ ⟨L, h1, h2, hL1, h3, h4⟩
   simp only at h1 h2 h3 h4
   have hLn := h2.le
   simp only [QM]
   by_cases hlt : (m : Int) < (g.length : Int)
   ·simp only [hlt, decide_true, if_true]
    refine Ok.bind ((Qk9 h1 (h3 (by omega)) (by omega) (by omega)).mono ?_)
    rintro ⟨i', k'⟩ ⟨i, k, e, hp⟩
    cases e
    obtain ⟨hik, hkL⟩ := hp.lt (by omega)
    simp only [QM]
    rw [QhK h2 (by omega) (i := i) (k := k) ?_]
    ·have hw2 : IntKind.i64.wrap ((k : Int) + 1) = ((k + 1 : Nat) : Int) := by rw [QA (by omega) (by omega)]; omega
     simp only [Option.bind_some, hw2]
     have hdel : Qgn g (k : Int) ((k + 1 : Nat) : Int) = some (g.take k ++ g.drop (k + 1)) := by
      unfold Qgn; rw [if_pos (by omega)]; rfl
     rw [hdel]
     have hlen : (g.take k ++ g.drop (k + 1)).length = L - 1 := by simp; omega
     simp only [Option.bind_some]
     refine ⟨_, Z, fun s' e => ?_, fun s' e => (by cases e), fun r e => (by cases e)⟩
     cases e
     refine ⟨⟨L - 1, hlen, h2.join hik hkL, by omega, fun h b hbL => ?_, ?_⟩, by simp only; omega⟩
     ·rw [Qkh h2 hik hkL (hp.same (by omega)) hbL]
      simp only
      by_cases hbk : b < k
      ·rw [if_pos hbk, List.getElem?_append_left (by simp; omega), List.getElem?_take_of_lt hbk]
       exact h3 (by omega) b (by omega)
      ·rw [if_neg hbk, List.getElem?_append_right (by simp; omega), List.getElem?_drop]
       have : k + 1 + (b - (g.take k).length) = b + 1 := by simp; omega
       rw [this]
       exact h3 (by omega) (b + 1) (by omega)
     ·rw [← h4, Qje (by omega) hp]
    ·intro q l' v hq hl' hv' hvL
     simp only [Qn, hv', Option.bind_some]
     unfold Qax
     by_cases e1 : (v : Int) = (k : Int)
     ·have n1 : ¬ (k : Int) < (v : Int) := by omega
      simp only [e1, decide_true, if_true]
      rw [QX (by omega)]
      simp only [Option.bind_some]
      rw [if_neg (by simp)]
      exact Ok.ret Z
     ·simp only [e1, decide_false, Bool.false_eq_true, if_false, Option.bind_some]
      by_cases e2 : (k : Int) < (v : Int)
      ·simp only [e2, decide_true, if_true, hv', Option.bind_some]
       rw [QX (by omega), QA (by omega) (by omega)]
       exact Ok.ret Z
      ·simp only [e2, decide_false, Bool.false_eq_true, if_false, Option.bind_some]
       refine Ok.ret ?_
       apply List.ext_getElem?
       intro j
       by_cases ej : j = q
       ·subst ej; rw [List.getElem?_set_self (by omega), hv']
       ·rw [List.getElem?_set_ne (Ne.symm ej)]
   ·simp only [hlt, decide_false, Bool.false_eq_true, if_false]
    refine ⟨_, Z, fun s' e => (by cases e), fun s' e => ?_, fun r e => (by cases e)⟩
    cases e
    have : L - m = 0 := by omega
    rw [this] at h4
    exact h4
  ·rintro ⟨l, g⟩ h
   simp only at h
   simp only [QM]
   exact Ok.ret ⟨Z, c, hb, by rw [hKd]; exact h⟩
theorem Qol (n : Int) : QN n 1 4096 = max 1 (min n 4096) := by
 have h := Qbc n 1 4096
 unfold Qas at h
 exact (Zu h).symm
theorem Qjt {x : System} (hv : VSys x) (most : Int) : Ok (Qaa x most) fun r => ∃ c0, IsBis (Kw x hv) c0 ∧ r = itM x (Yw (eqL c0) x.States.toNat - (max 1 (min most 4096)).toNat) c0 (Yw (eqL c0) x.States.toNat) := by
 unfold Qaa
 have s1 := hv.s1
 have s2 := hv.s2
 have hg := hv.g
 refine Ok.bind ((QhC hv s2).mono ?_)
 intro c hb
 obtain ⟨m, hm, hm1⟩ := Qe4 most
 have hK := hb.kok
 have hXn : (Kw x hv).n = x.States.toNat := rfl
 rw [hXn] at hK
 generalize hKd : Yw (eqL c) x.States.toNat = K at hK
 have hle := hK.le
 have hK1 : 1 ≤ K := by obtain ⟨k, h, _⟩ := hK.rng 0 (by omega); omega
 obtain ⟨n, hn⟩ : ∃ n : Nat, x.States = (n : Int) := ⟨x.States.toNat, by omega⟩
 have hnt : x.States.toNat = n := by omega
 rw [hnt] at hK hle hKd
 rw [hn, Qil hK (by omega) (by omega)]
 simp only [Option.bind_some, Qol, hm]
 rw [show ((m : Int)).toNat = m by omega, show ((n : Int)).toNat = n by omega]
 refine K3 (fun s : Int × List Int => ∃ L : Nat, s.1 = (L : Int) ∧ KOK s.2 n L ∧ 1 ≤ L ∧ itM x (L - m) s.2 L = itM x (K - m) c K) (fun s => s.2 = itM x (K - m) c K) (fun _ => False) (fun s => s.1.toNat) ⟨K, Z, hK, hK1, Z⟩ ?_ (fun _ h => h.elim) ?_
 ·rintro ⟨k, l⟩ ⟨L, e, h2, hL1, h4⟩
  simp only at e h2 h4
  subst e
  have hLn := h2.le
  simp only [QM]
  by_cases hlt : (m : Int) < (L : Int)
  ·simp only [hlt, decide_true, if_true]
   refine Ok.must (by simp; omega) ?_
   have hgo : ∀ b : Nat, K5 x l (b : Int) = some (JX x l b) := fun b => Qnj h2.len (by omega) b
   refine Ok.bind (QO (fun B (s : Int × Int) => ∃ i k : Nat, s = ((k : Int), (i : Int)) ∧ PickOr (JX x l) B i k) ⟨0, 1, Z, .inr ⟨fun a b _ hb => absurd hb (Nat.not_lt_zero _), Z, Z⟩⟩ ?_ ?_)
   ·rintro B ⟨k', i'⟩ hB ⟨i, k, e, hp⟩
    cases e
    simp only [QM]
    refine Ok.must (by simp; omega) ?_
    refine Ok.bind (QO (fun A (s : Int × Int) => (∃ i k : Nat, s = ((k : Int), (i : Int)) ∧ ((Qie (JX x l) (B + 1) i k ∧ k = B ∧ ∀ a, a < A → JX x l a = JX x l B → a ≤ i) ∨ (PickOr (JX x l) B i k ∧ ∀ a, a < A → JX x l a ≠ JX x l B))) ∨ (∃ i k : Nat, s = ((k : Int), (i : Int)) ∧ k = B ∧ i < A ∧ A ≤ B ∧ JX x l i = JX x l B ∧ ∀ a, a < A → JX x l a = JX x l B → a ≤ i)) (.inl ⟨i, k, Z, .inr ⟨hp, fun a h => absurd h (Nat.not_lt_zero _)⟩⟩) ?_ ?_)
    ·rintro A ⟨k'', i''⟩ hA hI
     have hAB : A < B := by omega
     simp only [QM, hgo, Option.bind_some]
     by_cases e : JX x l A = JX x l B
     ·simp only [e, beq_self_eq_true, if_true, Option.bind_some, QM]
      exact Ok.ret (.inr ⟨A, B, Z, Z, by omega, by omega, e, fun a ha _ => by omega⟩)
     ·have hne : (JX x l A == JX x l B) = false := by simpa using e
      simp only [hne, Bool.false_eq_true, if_false, Option.bind_some, QM]
      refine Ok.ret ?_
      rcases hI with ⟨i, k, e2, h⟩ | ⟨i, k, e2, h1, h2, h3, h4, h5⟩
      ·left
       refine ⟨i, k, e2, ?_⟩
       rcases h with ⟨h1, h2, h3⟩ | ⟨h1, h2⟩
       ·exact .inl ⟨h1, h2, fun a ha hh => by
         by_cases ea : a = A
         ·subst ea; exact absurd hh e
         ·exact h3 a (by omega) hh⟩
       ·exact .inr ⟨h1, fun a ha => by
         by_cases ea : a = A
         ·subst ea; exact e
         ·exact h2 a (by omega)⟩
      ·right
       exact ⟨i, k, e2, h1, by omega, by omega, h4, fun a ha hh => by
        by_cases ea : a = A
        ·subst ea; exact absurd hh e
        ·exact h5 a (by omega) hh⟩
    ·rintro ⟨k'', i''⟩ hI
     rw [show ((B : Int)).toNat = B by omega] at hI
     simp only [QM]
     refine Ok.ret ?_
     rcases hI with ⟨i, k, e2, h⟩ | ⟨i, k, e2, h1, h2, h3, h4, h5⟩
     ·refine ⟨i, k, e2, ?_⟩
      rcases h with ⟨h1, h2, h3⟩ | ⟨h1, h2⟩
      ·exact .inl h1
      ·rcases h1 with ⟨a1, a2, a3, a4⟩ | ⟨a1, a2, a3⟩
       ·refine .inl ⟨a1, by omega, a3, fun a b hab hb hh => ?_⟩
        by_cases eb : b = B
        ·subst eb; exact absurd hh (h2 a hab)
        ·exact a4 a b hab (by omega) hh
       ·refine .inr ⟨fun a b hab hb hh => ?_, a2, a3⟩
        by_cases eb : b = B
        ·subst eb; exact absurd hh (h2 a hab)
        ·exact absurd hh (a1 a b hab (by omega))
     ·subst h1
      exact ⟨i, k, e2, .inl ⟨h2, by omega, h4, fun a b hab hb hh => ⟨by omega, fun eb => by subst eb; exact h5 a hab hh⟩⟩⟩
   ·rintro ⟨k', i'⟩ ⟨i, k, e, hp⟩
    rw [show ((L : Int)).toNat = L by omega] at hp
    cases e
    obtain ⟨hik, hkL⟩ := hp.lt (by omega)
    simp only [QM]
    rw [QhK h2 (by omega) (i := i) (k := k) ?_]
    ·simp only [Option.bind_some]
     rw [QA (by omega) (by omega)]
     refine ⟨_, Z, fun s' e => ?_, fun s' e => (by cases e), fun r e => (by cases e)⟩
     cases e
     refine ⟨⟨L - 1, by simp only; omega, h2.join hik hkL, by omega, ?_⟩, by simp only; omega⟩
     rw [← h4, Qje (by omega) hp]
    ·intro q l' v hq hl' hv' hvL
     simp only [Qn, hv', Option.bind_some]
     unfold Qax
     by_cases e1 : (v : Int) = (k : Int)
     ·simp only [e1, decide_true, if_true]
      rw [QX (by omega)]
      exact Ok.ret Z
     ·simp only [e1, decide_false, Bool.false_eq_true, if_false, Option.bind_some]
      by_cases e2 : (k : Int) < (v : Int)
      ·simp only [e2, decide_true, if_true, hv', Option.bind_some]
       rw [QX (by omega), QA (by omega) (by omega)]
       exact Ok.ret Z
      ·simp only [e2, decide_false, Bool.false_eq_true, if_false, Option.bind_some]
       refine Ok.ret ?_
       apply List.ext_getElem?
       intro j
       by_cases ej : j = q
       ·subst ej; rw [List.getElem?_set_self (by omega), hv']
       ·rw [List.getElem?_set_ne (Ne.symm ej)]
  ·simp only [hlt, decide_false, Bool.false_eq_true, if_false]
   refine ⟨_, Z, fun s' e => (by cases e), fun s' e => ?_, fun r e => (by cases e)⟩
   cases e
   have : L - m = 0 := by omega
   rw [this] at h4
   exact h4
 ·rintro ⟨k, l⟩ h
  simp only at h
  simp only [QM]
  exact Ok.ret ⟨c, hb, by rw [hKd]; exact h⟩
end Go.Pw
/- -/
set_option maxHeartbeats 4000000
namespace Go.Pw
theorem Qat (a : Edge) : ¬ EdLt a a := by unfold EdLt; omega
theorem EdLt.trans {a b c : Edge} (h : EdLt a b) (k : EdLt b c) : EdLt a c := by unfold EdLt at *; omega
theorem QbK (a b : Edge) : EdLt a b ∨ a = b ∨ EdLt b a := by
 obtain ⟨a1, a2, a3⟩ := a
 obtain ⟨b1, b2, b3⟩ := b
 simp only [EdLt, Edge.mk.injEq]
 omega
def Srt (l : List Edge) : Prop := l.Pairwise EdLt
theorem Srt.ext : ∀ {l k : List Edge}, Srt l → Srt k → (∀ e, e ∈ l ↔ e ∈ k) → l = k
 | [], [], _, _, _ => rfl
 | [], b :: k, _, _, h => absurd ((h b).2 (by simp)) (by simp)
 | a :: l, [], _, _, h => absurd ((h a).1 (by simp)) (by simp)
 | a :: l, b :: k, hl, hk, h => by
  obtain ⟨h1, h2⟩ := List.pairwise_cons.1 hl
  obtain ⟨k1, k2⟩ := List.pairwise_cons.1 hk
  have hab : a = b := by
   rcases List.mem_cons.1 ((h a).1 (by simp)) with e | e
   ·exact e
   ·rcases List.mem_cons.1 ((h b).2 (by simp)) with e' | e'
    ·exact e'.symm
    ·exact absurd ((k1 a e).trans (h1 b e')) (Qat _)
  subst hab
  congr 1
  refine Srt.ext h2 k2 fun e => ?_
  have := h e
  simp only [List.mem_cons] at this
  constructor
  ·intro he
   rcases this.1 (.inr he) with e' | e'
   ·subst e'; exact absurd (h1 e he) (Qat _)
   ·exact e'
  ·intro he
   rcases this.2 (.inr he) with e' | e'
   ·subst e'; exact absurd (k1 e he) (Qat _)
   ·exact e'
theorem Srt.nodup {l : List Edge} (h : Srt l) : l.Nodup := by
 refine List.Pairwise.imp ?_ h
 intro a b hab e
 subst e
 exact Qat _ hab
theorem Qld {l : List Edge} (hn : l.Nodup) (hlen : l.length < 4611686018427387904) : ∃ k, Ku l = some k ∧ Srt k ∧ ∀ e, e ∈ k ↔ e ∈ l := by
 unfold Ku
 rw [if_pos hlen]
 refine ⟨_, Z, ?_, fun e => (List.mergeSort_perm l _).mem_iff⟩
 have hp : (l.mergeSort fun x y => !decide (Qbv y x < 0)).Pairwise (fun x y => (!decide (Qbv y x < 0)) = true) := by
  apply List.pairwise_mergeSort
  ·intro a b c h1 h2
   simp only [Bool.not_eq_true', decide_eq_false_iff_not, QcB] at *
   intro h3
   rcases QbK a b with h | h | h
   ·exact h2 (h3.trans h)
   ·subst h; exact h2 h3
   ·exact h1 h
  ·intro a b
   simp only [Bool.or_eq_true, Bool.not_eq_true', decide_eq_false_iff_not, QcB]
   by_cases h : EdLt b a
   ·exact .inr fun h' => Qat _ (h.trans h')
   ·exact .inl h
 have hnd : (l.mergeSort fun x y => !decide (Qbv y x < 0)).Nodup := (List.mergeSort_perm l _).nodup_iff.2 hn
 refine (hp.and hnd).imp ?_
 rintro a b ⟨h1, h2⟩
 simp only [Bool.not_eq_true', decide_eq_false_iff_not, QcB] at h1
 rcases QbK a b with h | h | h
 ·exact h
 ·exact absurd h h2
 ·exact absurd h h1
end Go.Pw
/- -/
set_option maxHeartbeats 4000000
namespace Go.Pw
theorem Yr {α β : Type} (xs : List α) (g : α → List β) {B : Nat → List β → Option (List β)} {s0 : List β} (h : ∀ i y s, xs[i]? = some y → s = s0 ++ (xs.take i).flatMap g → B i s = some (s ++ g y)) :
  forS B xs.length 0 s0 = some (s0 ++ xs.flatMap g) := by
 refine Ok.eq (QO (fun i s => s = s0 ++ (xs.take i).flatMap g) (by simp) ?_ (fun s hs => by rw [hs, List.take_length]))
 intro i s hi hs
 obtain ⟨y, hy⟩ := Qy hi
 refine QnE (h i y s hy hs) ?_
 rw [hs, List.append_assoc]
 congr 1
 rw [List.take_add_one, hy]
 simp [List.flatMap_append]
theorem Qeh {β : Type} (n : Nat) (g : Nat → List β) {B : Nat → List β → Option (List β)} {s0 : List β} (h : ∀ i s, i < n → s = s0 ++ (List.range i).flatMap g → B i s = some (s ++ g i)) :
  forS B n 0 s0 = some (s0 ++ (List.range n).flatMap g) := by
 refine Ok.eq (QO (fun i s => s = s0 ++ (List.range i).flatMap g) (by simp) ?_ (fun s hs => hs))
 intro i s hi hs
 refine QnE (h i s hi hs) ?_
 rw [hs, List.append_assoc]
 congr 1
 rw [List.range_succ]
 simp [List.flatMap_append]
theorem Qb7 {α β : Type} {g : α → List β} {M : Nat} : ∀ {xs : List α}, (∀ x ∈ xs, (g x).length ≤ M) → (xs.flatMap g).length ≤ xs.length * M
 | [], _ => by simp
 | x :: xs, h => by
  rw [List.flatMap_cons, List.length_append, List.length_cons, Nat.add_mul, Nat.one_mul]
  have h1 := h x (by simp)
  have h2 := Qb7 (xs := xs) (g := g) (M := M) fun y hy => h y (by simp [hy])
  omega
theorem Kp {α β : Type} {g : α → β} (xs : List α) : xs.flatMap (fun y => [g y]) = xs.map g := by
 induction xs with
 | nil => rfl
 | cons x xs ih => simp [ih]
def Qgl (a b : System) : List Bool := a.Goals.flatMap fun g => b.Goals.map fun h => g && h
theorem QgM (a b : System) (ha : a.Goals.length ≤ 4096) (hb : b.Goals.length ≤ 4096) (B : Nat → List Bool → Option (List Bool))
  (hB : ∀ i z, B i z = (forS (fun j => fun (l : List Bool) => ((Qz a.Goals (i : Int)).bind fun x => if x then ((Qz b.Goals (j : Int)).bind fun y => (app 1 l [y]).bind fun l' => some l') else ((app 1 l [false]).bind fun l' => some l')).bind (fun (l' : List Bool) => some l')) b.Goals.length 0 z).bind (fun (l : List Bool) => some l)) :
  forS B a.Goals.length 0 [] = some (Qgl a b) := by
 have := Yr a.Goals (fun g => b.Goals.map fun h => g && h) (B := B) (s0 := []) ?_
 ·simpa [Qgl] using this
 intro i g s hg hs
 have hi : i < a.Goals.length := (List.getElem?_eq_some_iff.1 hg).1
 have hsl : s.length ≤ 4096 * 4096 := by
  rw [hs, List.nil_append]
  refine Nat.le_trans (Qb7 (M := b.Goals.length) (by simp)) ?_
  refine Nat.mul_le_mul ?_ hb
  simp; omega
 rw [hB, Yr b.Goals (fun h => [g && h]) (s0 := s) ?_]
 ·simp [Kp]
 ·intro j h t hh ht
  have hj : j < b.Goals.length := (List.getElem?_eq_some_iff.1 hh).1
  have htl : t.length ≤ 4096 * 4096 + 4096 := by
   rw [ht, List.length_append, Kp, List.length_map, List.length_take]; omega
  simp only [Qn, hg, hh, Option.bind_some]
  cases g with
  | true => simp only [if_true]; rw [Jh (by simp; omega)]; simp
  | false => simp only [Bool.false_eq_true, if_false]; rw [Jh (by simp; omega)]; simp
def Jl (x : System) (l : Nat) : List Edge := x.Edges.filter fun d => decide (d.Label = (l : Int))
theorem Qlg (x : System) (l : Nat) : (Jl x l).length ≤ x.Edges.length := List.length_filter_le _ _
theorem QdQ (x : System) (hv : VSys x) : Ok (Kb x) fun L => L.length = x.Costs.length ∧ ∀ l, l < x.Costs.length → L[l]? = some (Jl x l) := by
 unfold Kb
 have hc := hv.c
 have he := hv.e
 refine Ok.step (Qb0 (by omega) (by omega)) (Ok.bind ?_)
 refine QO (fun i L => L.length = x.Costs.length ∧ ∀ l, l < x.Costs.length → L[l]? = some ((x.Edges.take i).filter fun d => decide (d.Label = (l : Int)))) ?_ ?_ ?_
 ·refine ⟨by simp, fun l hl => ?_⟩
  simp [hl]
 ·rintro i L hi ⟨h1, h2⟩
  obtain ⟨d, hd⟩ := Qy hi
  obtain ⟨e1, e2, e3, e4, e5, e6⟩ := hv.edge d (List.mem_of_getElem? hd)
  obtain ⟨l, hl⟩ : ∃ l : Nat, d.Label = (l : Int) := ⟨d.Label.toNat, by omega⟩
  have hlc : l < x.Costs.length := by omega
  rw [Qn, hd]
  simp only [Option.bind_some, hl, Qn, h2 l hlc]
  have hlen : ((x.Edges.take i).filter fun d => decide (d.Label = (l : Int))).length ≤ 65536 := by
   refine Nat.le_trans (List.length_filter_le _ _) ?_
   simp; omega
  refine Ok.step (Jh (by simp only [List.length_singleton]; omega)) (Ok.step (QX (by omega)) (Ok.ret ⟨by simp [h1], fun k hk => ?_⟩))
  rw [List.take_add_one, hd]
  by_cases e : k = l
  ·subst e
   simp [h1, hk, List.filter_append, hl]
  ·rw [List.getElem?_set_ne (Ne.symm e), h2 k hk]
   have : ¬ (d.Label = (k : Int)) := by omega
   simp [List.filter_append, this]
 ·rintro L ⟨h1, h2⟩
  exact Ok.ret ⟨h1, fun l hl => by rw [h2 l hl, List.take_length]; rfl⟩
def mkE (n : Int) (l : Int) (d f : Edge) : Edge := ⟨d.From * n + f.From, l, d.To * n + f.To⟩
def PE (a b : System) (e : Edge) : Prop := ∃ d ∈ a.Edges, ∃ f ∈ b.Edges, d.Label = f.Label ∧ e = mkE b.States d.Label d f
structure ProdRes (a b x : System) : Prop where
 s : x.States = a.States * b.States
 i : x.Init = a.Init * b.States + b.Init
 c : x.Costs = a.Costs
 g : x.Goals = Qgl a b
 o : Srt x.Edges
 e : ∀ e, e ∈ x.Edges ↔ PE a b e
theorem ProdRes.uniq {a b x y : System} (h : ProdRes a b x) (k : ProdRes a b y) : x = y := by
 have he : x.Edges = y.Edges := h.o.ext k.o fun e => (h.e e).trans (k.e e).symm
 obtain ⟨x1, x2, x3, x4, x5⟩ := x
 obtain ⟨y1, y2, y3, y4, y5⟩ := y
 have h1 := h.s.trans k.s.symm
 have h2 := h.i.trans k.i.symm
 have h3 := h.c.trans k.c.symm
 have h4 := h.g.trans k.g.symm
 simp only at *
 subst h1 h2 h3 h4 he
 rfl
theorem Qim {n x y x' y' : Int} (h0 : 0 ≤ y) (h1 : y < n) (h2 : 0 ≤ y') (h3 : y' < n) (h : x * n + y = x' * n + y') : x = x' ∧ y = y' := by
 have hn : 0 < n := by omega
 rcases Int.lt_trichotomy x x' with hlt | heq | hgt
 ·have : (x + 1) * n ≤ x' * n := Int.mul_le_mul_of_nonneg_right (by omega) (by omega)
  rw [Int.add_mul, Int.one_mul] at this
  omega
 ·subst heq; exact ⟨rfl, by omega⟩
 ·have : (x' + 1) * n ≤ x * n := Int.mul_le_mul_of_nonneg_right (by omega) (by omega)
  rw [Int.add_mul, Int.one_mul] at this
  omega
theorem Qfa {x n : Int} (h0 : 0 ≤ x) (h1 : x ≤ 4096) (h2 : 0 ≤ n) (h3 : n ≤ 4096) : 0 ≤ x * n ∧ x * n ≤ 16777216 := by
 refine ⟨Int.mul_nonneg h0 h2, ?_⟩
 have : x * n ≤ 4096 * 4096 := Int.mul_le_mul h1 h3 h2 (by omega)
 omega
theorem Qjb {a b : System} (ha : VSys a) (hb : VSys b) {d f : Edge} (hd : d ∈ a.Edges) (hf : f ∈ b.Edges) (l : Int) :
  (⟨IntKind.i64.wrap ((IntKind.i64.wrap (d.From * b.States)) + f.From), l, IntKind.i64.wrap ((IntKind.i64.wrap (d.To * b.States)) + f.To)⟩ : Edge) = mkE b.States l d f := by
 obtain ⟨d1, d2, d3, d4, _, _⟩ := ha.edge d hd
 obtain ⟨f1, f2, f3, f4, _, _⟩ := hb.edge f hf
 have s1 := ha.s2
 have s2 := hb.s1
 have s3 := hb.s2
 have m1 := Qfa (x := d.From) (n := b.States) d1 (by omega) (by omega) (by omega)
 have m2 := Qfa (x := d.To) (n := b.States) d3 (by omega) (by omega) (by omega)
 have w1 : IntKind.i64.wrap (d.From * b.States) = d.From * b.States := QA (by omega) (by omega)
 have w2 : IntKind.i64.wrap (d.To * b.States) = d.To * b.States := QA (by omega) (by omega)
 rw [w1, w2, QA (by omega) (by omega), QA (by omega) (by omega)]
 rfl
theorem VSys.srt {x : System} (h : VSys x) : Srt x.Edges := by
 refine List.pairwise_iff_getElem.2 ?_
 intro i j hi hj hij
 obtain ⟨k, rfl⟩ : ∃ k, j = i + 1 + k := ⟨j - i - 1, by omega⟩
 clear hij
 induction k with
 | zero => exact h.ord i _ _ (by simp [hi]) (by simp [show i + 1 < x.Edges.length by omega])
 | succ k ih => exact (ih (by omega)).trans (h.ord (i + 1 + k) _ _ (by simp [show i + 1 + k < x.Edges.length by omega]) (by simp [show i + 1 + k + 1 < x.Edges.length by omega]; rfl))
def Qhm (a b : System) (l : Nat) : List Edge := (Jl a l).flatMap fun d => (Jl b l).map fun f => mkE b.States (l : Int) d f
def QfG (a b : System) : List Edge := (List.range a.Costs.length).flatMap (Qhm a b)
theorem K2 {x : System} {l : Nat} {d : Edge} : d ∈ Jl x l ↔ d ∈ x.Edges ∧ d.Label = (l : Int) := by simp [Jl]
theorem Qjd {a b : System} (ha : VSys a) (e : Edge) : e ∈ QfG a b ↔ PE a b e := by
 simp only [QfG, Qhm, List.mem_flatMap, List.mem_range, List.mem_map, K2, PE]
 constructor
 ·rintro ⟨l, hl, d, ⟨hd, hdl⟩, f, ⟨hf, hfl⟩, rfl⟩
  exact ⟨d, hd, f, hf, hdl.trans hfl.symm, by rw [hdl]⟩
 ·rintro ⟨d, hd, f, hf, hdf, rfl⟩
  obtain ⟨e1, e2, e3, e4, e5, e6⟩ := ha.edge d hd
  obtain ⟨l, hl⟩ : ∃ l : Nat, d.Label = (l : Int) := ⟨d.Label.toNat, by omega⟩
  exact ⟨l, by omega, d, ⟨hd, hl⟩, f, ⟨hf, hdf ▸ hl⟩, by rw [hl]⟩
theorem QgH {a b : System} (ha : VSys a) (hb : VSys b) : (QfG a b).Nodup := by
 have na := ha.srt.nodup
 have nb := hb.srt.nodup
 unfold QfG
 refine List.pairwise_flatMap.2 ⟨fun l _ => ?_, ?_⟩
 ·unfold Qhm
  refine List.pairwise_flatMap.2 ⟨fun d hd => ?_, ?_⟩
  ·refine List.pairwise_map.2 ?_
   refine List.Pairwise.imp_of_mem ?_ (nb.sublist List.filter_sublist)
   intro f f' hf hf' hne heq
   apply hne
   obtain ⟨hf1, hf2⟩ := K2.1 hf
   obtain ⟨hf1', hf2'⟩ := K2.1 hf'
   simp only [mkE, Edge.mk.injEq] at heq
   obtain ⟨f1, f2, f3⟩ := f
   obtain ⟨g1, g2, g3⟩ := f'
   simp only [Edge.mk.injEq] at *
   omega
  ·refine List.Pairwise.imp_of_mem ?_ (na.sublist List.filter_sublist)
   intro d d' hd hd' hne e he e' he' heq
   apply hne
   subst heq
   obtain ⟨f, hf, rfl⟩ := List.mem_map.1 he
   obtain ⟨f', hf', heq⟩ := List.mem_map.1 he'
   obtain ⟨hf1, hf2⟩ := K2.1 hf
   obtain ⟨hf1', hf2'⟩ := K2.1 hf'
   obtain ⟨hd1, hd2⟩ := K2.1 hd
   obtain ⟨hd1', hd2'⟩ := K2.1 hd'
   obtain ⟨a1, a2, a3, a4, _, _⟩ := hb.edge f hf1
   obtain ⟨b1, b2, b3, b4, _, _⟩ := hb.edge f' hf1'
   simp only [mkE, Edge.mk.injEq, true_and] at heq
   have h1 := Qim b1 b2 a1 a2 heq.1
   have h2 := Qim b3 b4 a3 a4 heq.2
   obtain ⟨x1, x2, x3⟩ := d
   obtain ⟨y1, y2, y3⟩ := d'
   simp only [Edge.mk.injEq] at *
   omega
 ·refine List.Pairwise.imp ?_ (List.pairwise_lt_range (n := a.Costs.length))
  intro l l' hlt e he e' he' heq
  subst heq
  simp only [Qhm, List.mem_flatMap, List.mem_map] at he he'
  obtain ⟨d, _, f, _, rfl⟩ := he
  obtain ⟨d', _, f', _, heq⟩ := he'
  simp only [mkE, Edge.mk.injEq] at heq
  omega
end Go.Pw
/- -/
set_option maxHeartbeats 4000000
set_option maxRecDepth 100000
namespace Go.Pw
/-! ### which lists are classes -/
theorem QmB {α : Type} {l : List α} {m : Nat} (h : m ≤ l.length) : cut l 0 (m : Int) = some (l.take m) := by
 unfold cut
 rw [if_pos (by omega)]
 simp
theorem Qkm {c : List Int} {n : Nat} (hn : n ≤ 1000000) (hl : c.length = n) : Ok (Kc c (n : Int)) fun r => (∃ K : Nat, KOK c n K ∧ r = ((K : Int), true)) ∨ ((¬ ∃ K, KOK c n K) ∧ r.2 = false) := by
 unfold Kc
 rw [if_neg (by simp [hl])]
 refine Ok.step (Qb0 (by omega) (by omega)) ?_
 refine Ok.ctl (fun i (s : Int × List Bool) => s.2.length = n ∧ (∀ j, j < i → ∃ k : Nat, c[j]? = some (k : Int) ∧ (k : Int) < s.1) ∧ (∃ M : Nat, s.1 = (M : Int) ∧ M ≤ n ∧ (M = 0 ∨ ∃ j, j < i ∧ c[j]? = some ((M : Int) - 1))) ∧ ∀ b : Nat, s.2[b]? = some true ↔ b < n ∧ ∃ j, j < i ∧ c[j]? = some (b : Int)) (fun r => r = (0, false) ∧ ¬ ∃ K, KOK c n K) ⟨by simp, fun j h => absurd h (Nat.not_lt_zero _), ⟨0, Z, Nat.zero_le _, .inl Z⟩, fun b => ?_⟩ ?_ ?_ ?_
 ·simp [List.getElem?_replicate]
 ·rintro i ⟨m, l⟩ hi ⟨h1, h2, ⟨M, h3, h4, h5⟩, h6⟩
  simp only at h1 h2 h3 h5 h6
  subst h3
  obtain ⟨v, hv⟩ := QY hi
  simp only [QM, Qn, hv, Option.bind_some]
  by_cases hb : v < 0 ∨ (n : Int) ≤ v
  ·rw [if_pos (by simpa using hb)]
   refine Ok.ret ⟨Z, ?_⟩
   rintro ⟨K, hK⟩
   obtain ⟨k, hk, hki⟩ := hK.rng i (by omega)
   rw [hv] at hki
   have := hK.le
   cases hki
   omega
  ·rw [if_neg (by simpa using hb)]
   obtain ⟨k, rfl⟩ : ∃ k : Nat, v = (k : Int) := ⟨v.toNat, by omega⟩
   obtain ⟨y, hy⟩ := QY (show k < l.length by omega)
   simp only [Qn, hy, Option.bind_some]
   rw [QX (by omega), QA (by omega) (by omega)]
   refine Ok.ret ⟨by simp [h1], fun j hj => ?_, ?_, fun b => ?_⟩
   ·by_cases e : j = i
    ·subst e; exact ⟨k, hv, by simp only; omega⟩
    ·obtain ⟨q, hq1, hq2⟩ := h2 j (by omega); exact ⟨q, hq1, by simp only; omega⟩
   ·by_cases hM : (M : Int) ≤ (k : Int) + 1
    ·exact ⟨k + 1, by simp only; rw [Int.max_eq_right hM]; rfl, by omega, .inr ⟨i, by omega, by rw [hv]; congr 1; omega⟩⟩
    ·refine ⟨M, by simp only; rw [Int.max_eq_left (by omega)], h4, ?_⟩
     rcases h5 with h5 | ⟨j, hj, hj2⟩
     ·exact .inl h5
     ·exact .inr ⟨j, by omega, hj2⟩
   ·simp only
    by_cases e : b = k
    ·subst e
     rw [List.getElem?_set_self (by omega)]
     simp only [true_iff]
     exact ⟨by omega, i, by omega, hv⟩
    ·rw [List.getElem?_set_ne (Ne.symm e), h6 b]
     constructor
     ·rintro ⟨a1, j, hj, hj2⟩; exact ⟨a1, j, by omega, hj2⟩
     ·rintro ⟨a1, j, hj, hj2⟩
      by_cases ej : j = i
      ·subst ej; rw [hv] at hj2; simp at hj2; omega
      ·exact ⟨a1, j, by omega, hj2⟩
 ·rintro r ⟨rfl, h⟩
  exact Ok.ret (.inr ⟨h, Z⟩)
 ·rintro ⟨m, l⟩ ⟨h1, h2, ⟨M, h3, h4, h5⟩, h6⟩
  simp only at h1 h2 h3 h5 h6
  rw [hl] at h2 h5 h6
  subst h3
  simp only [QM]
  rw [QmB (by omega)]
  simp only [Option.bind_some]
  have hlt : (l.take M).length = M := by simp; omega
  rw [YF (p := fun b => decide (l[b]? = some true)) (r := (0, false)) ?_]
  ·by_cases hall : ∀ b, b < M → l[b]? = some true
   ·rw [hlt, if_pos (List.all_eq_true.2 fun b hb => by simpa using hall b (by simpa using hb))]
    refine Ok.ret (.inl ⟨M, ⟨hl, fun i hi => ?_, fun b hb => ?_, h4⟩, Z⟩)
    ·obtain ⟨k, hk1, hk2⟩ := h2 i hi
     exact ⟨k, by omega, hk1⟩
    ·obtain ⟨_, j, hj, hj2⟩ := (h6 b).1 (hall b hb)
     exact ⟨j, hj, hj2⟩
   ·rw [hlt, if_neg ?_]
    ·refine Ok.ret (.inr ⟨?_, Z⟩)
     rintro ⟨K, hK⟩
     apply hall
     intro b hb
     have hMK : M ≤ K := by
      rcases h5 with h5 | ⟨j, hj, hj2⟩
      ·omega
      ·obtain ⟨k, hk, hkj⟩ := hK.rng j hj
       rw [hkj] at hj2; simp at hj2; omega
     obtain ⟨j, hj, hj2⟩ := hK.onto b (by omega)
     exact (h6 b).2 ⟨by omega, j, hj, hj2⟩
    ·intro h
     apply hall
     intro b hb
     have := List.all_eq_true.1 h b (by simpa using hb)
     simpa using this
  ·intro b hb
   obtain ⟨y, hy⟩ := QY (show b < l.length by omega)
   have : (l.take M)[b]? = some y := by rw [List.getElem?_take_of_lt (by omega), hy]
   simp only [Qn, this, hy, Option.bind_some, Option.some.injEq]
   cases y <;> simp
theorem KOK.uniq {c : List Int} {n K L : Nat} (h : KOK c n K) (k : KOK c n L) : K = L := by
 have key : ∀ {K L : Nat}, KOK c n K → KOK c n L → K ≤ L := by
  intro K L h k
  rcases Nat.eq_zero_or_pos K with h0 | h0
  ·omega
  ·obtain ⟨i, hi, hi2⟩ := h.onto (K - 1) (by omega)
   obtain ⟨q, hq, hq2⟩ := k.rng i hi
   rw [hi2] at hq2; simp at hq2; omega
 have := key h k; have := key k h; omega
/-! ### sorted edges, each once -/
theorem Qjz (s : List Edge) : Qbd s = Qe9 (fun a b => eqs [a.From, a.Label, a.To] [b.From, b.Label, b.To]) ⟨0, 0, 0⟩ s := rfl
theorem Qgy (a b : Edge) : eqs [a.From, a.Label, a.To] [b.From, b.Label, b.To] = true ↔ a = b := by
 obtain ⟨a1, a2, a3⟩ := a
 obtain ⟨b1, b2, b3⟩ := b
 simp [eqs]
theorem Qmw {l : List Edge} (h : l.length ≤ 1000000) : Ok (KY l) fun r => Srt r ∧ r.length ≤ l.length ∧ ∀ e, e ∈ r ↔ e ∈ l := by
 unfold KY
 have hs : Ku l = some (l.mergeSort fun x y => !decide (Qbv y x < 0)) := by unfold Ku; rw [if_pos (by omega)]
 rw [hs]
 simp only [Option.bind_some, Qjz]
 have hlen : (l.mergeSort fun x y => !decide (Qbv y x < 0)).length = l.length := List.length_mergeSort l
 have hp : (l.mergeSort fun x y => !decide (Qbv y x < 0)).Pairwise (fun a b => ¬ EdLt b a) := by
  have : (l.mergeSort fun x y => !decide (Qbv y x < 0)).Pairwise (fun x y => (!decide (Qbv y x < 0)) = true) := by
   apply List.pairwise_mergeSort
   ·intro a b c h1 h2
    simp only [Bool.not_eq_true', decide_eq_false_iff_not, QcB] at *
    intro h3
    rcases QbK a b with h | h | h
    ·exact h2 (h3.trans h)
    ·subst h; exact h2 h3
    ·exact h1 h
   ·intro a b
    simp only [Bool.or_eq_true, Bool.not_eq_true', decide_eq_false_iff_not, QcB]
    by_cases h : EdLt b a
    ·exact .inr fun h' => Qat _ (h.trans h')
    ·exact .inl h
  refine this.imp ?_
  intro a b h
  simpa [QcB] using h
 refine Ok.bind ((Qel Qgy ⟨0, 0, 0⟩ _ (by rw [hlen]; omega)).mono ?_)
 rintro ⟨k, r⟩ ⟨h1, h2, h3⟩
 simp only at h1 h2 h3
 simp only [QM]
 refine Ok.must (by simp; omega) (Ok.ret ?_)
 rw [h3]
 refine ⟨(Qd7 (le := fun a b => ¬ EdLt b a) (lt := EdLt) (fun a b h ne => (QbK a b).resolve_right fun h2 => h2.elim ne h) (fun a b c h1 h2 => ?_) (fun a b c h1 h2 h3 => ?_) _ none hp (by simp)).1, ?_, fun e => ?_⟩
 ·rcases QbK a b with h | h | h
  ·exact h.trans h2
  ·subst h; exact h2
  ·exact absurd h h1
 ·rcases QbK a b with h | h | h
  ·exact h2 (h3.trans h)
  ·subst h; exact h2 h3
  ·exact h1 h
 ·have := Qia (l.mergeSort fun x y => !decide (Qbv y x < 0)) none
  omega
 ·rw [QjL]
  exact (List.mergeSort_perm l _).mem_iff
/-! ### the quotient -/
def QfE (c : List Int) (d : Edge) : Edge := ⟨(cN c d.From.toNat : Int), d.Label, (cN c d.To.toNat : Int)⟩
structure QRes (x : System) (c : List Int) (K : Nat) (y : System) : Prop where
 s : y.States = (K : Int)
 i : y.Init = (cN c x.Init.toNat : Int)
 cs : y.Costs = x.Costs
 gl : y.Goals.length = K
 g : ∀ b, b < K → y.Goals[b]? = some (JX x c b)
 o : Srt y.Edges
 l : y.Edges.length ≤ x.Edges.length
 e : ∀ e, e ∈ y.Edges ↔ ∃ d ∈ x.Edges, e = QfE c d
theorem KOK.clsOf {c : List Int} {n K : Nat} (h : KOK c n K) : ClsOf c n K := by
 refine ⟨h.len, fun v hv => ?_⟩
 obtain ⟨i, hi⟩ := List.mem_iff_getElem?.1 hv
 have hin : i < n := by have := (List.getElem?_eq_some_iff.1 hi).1; rw [h.len] at this; exact this
 obtain ⟨k, hk, hki⟩ := h.rng i hin
 rw [hi] at hki; cases hki
 exact ⟨k, Z, hk⟩
theorem Qk7 {x : System} (hv : VSys x) {c : List Int} {K : Nat} (hK : KOK c x.States.toNat K) : Ok (Kr x c) fun r => r.1 = none ∧ QRes x c K r.2 := by
 unfold Kr
 have s1 := hv.s1; have s2 := hv.s2; have i0 := hv.i0; have i1 := hv.i1; have hg := hv.g; have hcl := hv.c; have he := hv.e
 obtain ⟨n, hn⟩ : ∃ n : Nat, x.States = (n : Int) := ⟨x.States.toNat, by omega⟩
 have hnt : x.States.toNat = n := by omega
 rw [hnt] at hK
 have hc := hK.clsOf
 have hKn := hK.le
 have hcls : Kc c x.States = some ((K : Int), true) := by
  rw [hn]
  obtain ⟨r, h1, h2⟩ := Qkm (n := n) (by omega) hK.len
  rw [h1]
  rcases h2 with ⟨L, hL, rfl⟩ | ⟨h, _⟩
  ·rw [hL.uniq hK]
  ·exact absurd ⟨K, hK⟩ h
 rw [hcls]
 simp only [Option.bind_some, QM, tV, Qa1.2 hv, Bool.not_true, Bool.false_eq_true, if_false]
 obtain ⟨q, hq⟩ : ∃ q : Nat, x.Init = (q : Int) := ⟨x.Init.toNat, by omega⟩
 have hci := (hc.get (i := q) (by omega)).1
 rw [hq, Qn, hci]
 have hclone : Qx x.Costs = some x.Costs := by
  unfold Qx
  rw [Jh (by simp; omega)]
  simp
 simp only [Option.bind_some, hclone]
 refine Ok.step (Qb0 (by omega) (by omega)) (Ok.bind ?_)
 refine QO (fun m (l : List Bool) => l.length = K ∧ ∀ b, b < K → ∃ z, l[b]? = some z ∧ (z = true ↔ ∃ i, i < m ∧ c[i]? = some (b : Int) ∧ x.Goals[i]? = some true)) ⟨by simp, fun b hb => ⟨false, by simp [hb], by simp⟩⟩ ?_ ?_
 ·rintro m l hm ⟨h1, h2⟩
  obtain ⟨g, hgm⟩ := QY hm
  have hcm := hc.get (i := m) (by omega)
  obtain ⟨z, hz, hz2⟩ := h2 _ hcm.2
  simp only [Qn, hgm, hcm.1, hz, Option.bind_some]
  have key : ∀ w : Bool, (w = true ↔ z = true ∨ g = true) → ((l.set (cN c m) w).length = K ∧ ∀ b, b < K → ∃ z, (l.set (cN c m) w)[b]? = some z ∧ (z = true ↔ ∃ i, i < m + 1 ∧ c[i]? = some (b : Int) ∧ x.Goals[i]? = some true)) := by
   intro w hw
   refine ⟨by simp [h1], fun b hb => ?_⟩
   by_cases e : b = cN c m
   ·subst e
    refine ⟨w, by rw [List.getElem?_set_self (by omega)], ?_⟩
    rw [hw, hz2]
    constructor
    ·rintro (⟨i, a1, a2, a3⟩ | h)
     ·exact ⟨i, by omega, a2, a3⟩
     ·exact ⟨m, by omega, hcm.1, by rw [hgm, h]⟩
    ·rintro ⟨i, a1, a2, a3⟩
     by_cases ei : i = m
     ·subst ei; rw [hgm] at a3; cases a3; exact .inr rfl
     ·exact .inl ⟨i, by omega, a2, a3⟩
   ·obtain ⟨z', b1, b2⟩ := h2 b hb
    refine ⟨z', by rw [List.getElem?_set_ne (Ne.symm e)]; exact b1, ?_⟩
    rw [b2]
    constructor
    ·rintro ⟨i, a1, a2, a3⟩; exact ⟨i, by omega, a2, a3⟩
    ·rintro ⟨i, a1, a2, a3⟩
     by_cases ei : i = m
     ·subst ei; rw [hcm.1] at a2; simp at a2; omega
     ·exact ⟨i, by omega, a2, a3⟩
  cases z with
  | true =>
   simp only [if_true]
   rw [QX (by omega)]
   exact Ok.ret (key true (by simp))
  | false =>
   simp only [Bool.false_eq_true, if_false]
   rw [QX (by omega)]
   exact Ok.ret (key g (by simp))
 ·rintro l ⟨h1, h2⟩
  have hloop : forS (fun i => fun (z : List Edge) => (Qz x.Edges (i : Int)).bind fun d => (Qz c d.From).bind fun a => (Qz c d.To).bind fun b => (app 24 z [(⟨a, d.Label, b⟩ : Edge)]).bind fun z' => some z') x.Edges.length 0 [] = some (x.Edges.map (QfE c)) := by
   have := Yr x.Edges (fun d => [QfE c d]) (s0 := []) (B := fun i => fun (z : List Edge) => (Qz x.Edges (i : Int)).bind fun d => (Qz c d.From).bind fun a => (Qz c d.To).bind fun b => (app 24 z [(⟨a, d.Label, b⟩ : Edge)]).bind fun z' => some z') ?_
   ·rw [List.nil_append, Kp] at this; exact this
   ·intro i d s hd hs
    have hsl : s.length ≤ 65536 := by rw [hs, List.nil_append, Kp, List.length_map, List.length_take]; omega
    obtain ⟨f, lb, t, rfl, hf, ht, _⟩ := Y4 hv (List.mem_of_getElem? hd)
    rw [hnt] at hf ht
    simp only [Qn, hd, (hc.get hf).1, (hc.get ht).1, Option.bind_some]
    rw [Jh (by simp; omega)]
    simp [QfE]
  rw [hloop]
  simp only [Option.bind_some]
  refine Ok.bind ((Qmw (l := x.Edges.map (QfE c)) (by simp; omega)).mono ?_)
  rintro es ⟨e1, e2, e3⟩
  refine Ok.ret ⟨Z, Z, by simp [hq], Z, h1, fun b hb => ?_, e1, by simpa using e2, fun e => ?_⟩
  ·obtain ⟨z, b1, b2⟩ := h2 b hb
   simp only
   rw [b1]
   congr 1
   rw [Bool.eq_iff_iff, b2, JZ]
   constructor
   ·rintro ⟨i, _, a2, a3⟩; exact ⟨i, a2, a3⟩
   ·rintro ⟨i, a2, a3⟩; exact ⟨i, (List.getElem?_eq_some_iff.1 a3).1, a2, a3⟩
  ·simp only
   rw [e3]
   simp only [List.mem_map]
   constructor
   ·rintro ⟨d, hd, rfl⟩; exact ⟨d, hd, rfl⟩
   ·rintro ⟨d, hd, rfl⟩; exact ⟨d, hd, rfl⟩
theorem QRes.v {x y : System} (hv : VSys x) {c : List Int} {K : Nat} (hK : KOK c x.States.toNat K) (h : QRes x c K y) : VSys y := by
 have s1 := hv.s1; have s2 := hv.s2; have i0 := hv.i0; have i1 := hv.i1
 have hc := hK.clsOf
 have hi := (hc.get (i := x.Init.toNat) (by omega)).2
 have hle := hK.le
 refine ⟨by rw [h.s]; omega, by rw [h.s]; omega, by rw [h.i]; omega, by rw [h.i, h.s]; omega, by rw [h.gl, h.s], by rw [h.cs]; exact hv.c, by have := h.l; have := hv.e; omega, by rw [h.cs]; exact hv.cost, fun e he => ?_, fun i a b ha hb => ?_⟩
 ·obtain ⟨d, hd, rfl⟩ := (h.e e).1 he
  obtain ⟨f, l, t, rfl, hf, ht, hl⟩ := Y4 hv hd
  have h1 := (hc.get hf).2
  have h2 := (hc.get ht).2
  simp only [QfE, Int.toNat_natCast, h.s, h.cs]
  omega
 ·have := List.pairwise_iff_getElem.1 h.o i (i + 1) (List.getElem?_eq_some_iff.1 ha).1 (List.getElem?_eq_some_iff.1 hb).1 (by omega)
  rw [(List.getElem?_eq_some_iff.1 ha).2, (List.getElem?_eq_some_iff.1 hb).2] at this
  exact this
theorem QRes.edge {x y : System} (hv : VSys x) {c : List Int} {K : Nat} (h : QRes x c K y) {u l v : Nat} : Qap y u l v ↔ ∃ i t, Qap x i l t ∧ cN c i = u ∧ cN c t = v := by
 unfold Qap
 rw [h.e]
 constructor
 ·rintro ⟨d, hd, e⟩
  obtain ⟨f, l', t, rfl, _, _, _⟩ := Y4 hv hd
  simp only [QfE, Int.toNat_natCast, Edge.mk.injEq] at e
  have : l' = l := by omega
  subst this
  exact ⟨f, t, hd, by omega, by omega⟩
 ·rintro ⟨i, t, he, rfl, rfl⟩
  exact ⟨_, he, by simp [QfE]⟩
end Go.Pw
/- -/
set_option maxHeartbeats 4000000
namespace Go.Pw
def InR (vars : List Int) (x : Fact) : Prop := 0 ≤ x.Var ∧ x.Var < (vars.length : Int) ∧ 0 ≤ x.Val ∧ x.Val < vars[x.Var.toNat]?.getD 0
structure FactsOK (vars : List Int) (f : List Fact) : Prop where
 r : ∀ x ∈ f, InR vars x
 o : f.Pairwise fun a b => a.Var < b.Var
structure OpOK (vars : List Int) (o : Op) : Prop where
 c0 : 0 ≤ o.Cost
 c1 : o.Cost ≤ 1048576
 ne : o.Effs.length ≤ 64
 nm : o.Name.size ≤ 256
 ch : ∀ c ∈ bytesOf o.Name, 32 ≤ c ∧ c ≤ 126
 pre : FactsOK vars o.Pre
 eff : ∀ e ∈ o.Effs, FactsOK vars e.When ∧ InR vars ⟨e.Var, e.Val⟩
structure StateOK (vars s : List Int) : Prop where
 len : s.length = vars.length
 r : ∀ (i : Nat) (x d : Int), s[i]? = some x → vars[i]? = some d → 0 ≤ x ∧ x < d
structure GoodT (t : Task) : Prop where
 nv : t.Vars.length ≤ 64
 no : t.Ops.length ≤ 4096
 v : ∀ n ∈ t.Vars, 1 ≤ n ∧ n ≤ 64
 init : StateOK t.Vars t.Init
 goal : FactsOK t.Vars t.Goal
 op : ∀ o ∈ t.Ops, OpOK t.Vars o
theorem QG {α : Type} {l : List α} {i : Nat} {x : α} (h : l[i]? = some x) : l.take (i + 1) = l.take i ++ [x] := by rw [List.take_add_one, h]; rfl
theorem FactsOK.snoc {vars : List Int} {l : List Fact} {x : Fact} : FactsOK vars (l ++ [x]) ↔ FactsOK vars l ∧ InR vars x ∧ ∀ a ∈ l, a.Var < x.Var := by
 constructor
 ·rintro ⟨h1, h2⟩
  rw [List.pairwise_append] at h2
  exact ⟨⟨fun y hy => h1 y (by simp [hy]), h2.1⟩, h1 x (by simp), fun a ha => h2.2.2 a ha x (by simp)⟩
 ·rintro ⟨⟨h1, h2⟩, h3, h4⟩
  refine ⟨fun y hy => ?_, List.pairwise_append.2 ⟨h2, by simp, fun a ha b hb => ?_⟩⟩
  ·rcases List.mem_append.1 hy with hy | hy
   ·exact h1 y hy
   ·simp only [List.mem_singleton] at hy; subst hy; exact h3
  ·simp only [List.mem_singleton] at hb; subst hb; exact h4 a ha
theorem FactsOK.take {vars : List Int} {f : List Fact} (h : FactsOK vars f) (i : Nat) : FactsOK vars (f.take i) := ⟨fun x hx => h.r x (List.mem_of_mem_take hx), h.o.sublist (List.take_sublist i f)⟩
theorem FactsOK.len {vars : List Int} {f : List Fact} (h : FactsOK vars f) : f.length ≤ vars.length := by
 have := nodup_short' (n := vars.length) (L := f.map fun x => x.Var.toNat) ?_ ?_
 ·simpa using this
 ·refine List.pairwise_map.2 (h.o.imp_of_mem ?_)
  intro a b ha hb hlt
  have := h.r a ha
  have := h.r b hb
  unfold InR at *
  omega
 ·intro x hx
  obtain ⟨y, hy, rfl⟩ := List.mem_map.1 hx
  have := h.r y hy
  unfold InR at *
  omega
theorem QhP {vars : List Int} {f : List Fact} {i : Nat} {x : Fact} (hx : f[i]? = some x) (h : ¬ (InR vars x ∧ ∀ a ∈ f.take i, a.Var < x.Var)) : ¬ FactsOK vars f := fun hf => h (by
 have := hf.take (i + 1)
 rw [QG hx] at this
 exact (FactsOK.snoc.1 this).2)
theorem Qej {vars : List Int} {f : List Fact} {i : Nat} {x : Fact} (hx : f[i]? = some x) (h : FactsOK vars (f.take i)) (hr : InR vars x) (hl : ∀ a ∈ f.take i, a.Var < x.Var) : FactsOK vars (f.take (i + 1)) := by
 rw [QG hx]
 exact FactsOK.snoc.2 ⟨h, hr, hl⟩
theorem Qdu {vars : List Int} {n : Int} (h0 : 0 ≤ n) (h1 : n < (vars.length : Int)) : Qz vars n = some (vars[n.toNat]?.getD 0) := by
 obtain ⟨d, hd⟩ := Qy (xs := vars) (i := n.toNat) (by omega)
 unfold Qz
 rw [if_pos h0, hd]
 rfl
open Classical in
theorem QfV (vars : List Int) (f : List Fact) (hv : vars.length ≤ 4096) : Kv vars f = some (decide (FactsOK vars f)) := by
 refine Ok.eq ?_
 unfold Kv
 refine Ok.ctl (fun i _ => FactsOK vars (f.take i)) (fun r => r = false ∧ ¬ FactsOK vars f) ⟨by simp, by simp⟩ ?_ ?_ ?_
 ·rintro i _ hi h
  obtain ⟨x, hx⟩ := Qy hi
  have hb := fun h => QhP (vars := vars) hx h
  have hlen := h.len
  have hil : i ≤ 4096 := by rw [List.length_take] at hlen; omega
  simp only [Qn, hx, Option.bind_some]
  by_cases h1 : x.Var < 0
  ·simp only [h1, decide_true, if_true, Option.bind_some]; exact Ok.ret ⟨rfl, hb fun h => by have := h.1; unfold InR at this; omega⟩
  by_cases h2 : (vars.length : Int) ≤ x.Var
  ·simp only [h1, h2, decide_true, decide_false, Bool.false_eq_true, if_false, if_true, Option.bind_some]; exact Ok.ret ⟨rfl, hb fun h => by have := h.1; unfold InR at this; omega⟩
  by_cases h3 : x.Val < 0
  ·simp only [h1, h2, h3, decide_true, decide_false, Bool.false_eq_true, if_false, if_true, Option.bind_some]; exact Ok.ret ⟨rfl, hb fun h => by have := h.1; unfold InR at this; omega⟩
  rw [Qdu (by omega) (by omega)]
  by_cases h4 : vars[x.Var.toNat]?.getD 0 ≤ x.Val
  ·simp only [h1, h2, h3, h4, decide_true, decide_false, Bool.false_eq_true, if_false, if_true, Option.bind_some]; exact Ok.ret ⟨rfl, hb fun h => by have := h.1; unfold InR at this; omega⟩
  have hr : InR vars x := by unfold InR; omega
  by_cases h5 : 0 < i
  ·obtain ⟨a, ha⟩ := Qy (show i - 1 < f.length by omega)
   have hw : IntKind.i64.wrap ((i : Int) - 1) = ((i - 1 : Nat) : Int) := by rw [QA (by omega) (by omega)]; omega
   have h5' : (0 : Int) < (i : Int) := by omega
   have ht : f.take i = f.take (i - 1) ++ [a] := by
    have := QG ha
    rwa [show i - 1 + 1 = i by omega] at this
   simp only [h1, h2, h3, h4, h5', hw, Qn, ha, decide_true, decide_false, Bool.false_eq_true, if_false, if_true, Option.bind_some]
   by_cases h6 : x.Var ≤ a.Var
   ·simp only [h6, decide_true, if_true]
    exact Ok.ret ⟨Z, hb fun h => by have := h.2 a (by rw [ht]; simp); omega⟩
   ·simp only [h6, decide_false, Bool.false_eq_true, if_false]
    refine Ok.ret (Qej hx h hr fun b hb => ?_)
    rw [ht] at hb h
    rcases List.mem_append.1 hb with hb | hb
    ·have := (FactsOK.snoc.1 h).2.2 b hb; omega
    ·simp only [List.mem_singleton] at hb; subst hb; omega
  ·have h5' : ¬ (0 : Int) < (i : Int) := by omega
   obtain rfl : i = 0 := by omega
   simp only [h1, h2, h3, h4, h5', decide_true, decide_false, Bool.false_eq_true, if_false, if_true, Option.bind_some]
   exact Ok.ret (Qej hx h hr (by simp))
 ·rintro r ⟨rfl, hn⟩
  exact Ok.ret (by simp [hn])
 ·intro _ h
  rw [List.take_length] at h
  exact Ok.ret (by simp [h])
open Classical in
theorem QlQ (vars : List Int) (f : List Fact) : YH vars f = some (decide (FactsOK vars f)) := by
 refine Ok.eq ?_
 unfold YH
 refine Ok.ctl (fun i last => FactsOK vars (f.take i) ∧ -1 ≤ last ∧ (∀ a ∈ f.take i, a.Var ≤ last) ∧ (last = -1 ∨ ∃ a ∈ f.take i, a.Var = last)) (fun r => r = false ∧ ¬ FactsOK vars f) ⟨⟨by simp, by simp⟩, by omega, by simp, .inl Z⟩ ?_ ?_ ?_
 ·rintro i last hi ⟨h, g1, g2, g3⟩
  obtain ⟨x, hx⟩ := Qy hi
  have hb := fun h => QhP (vars := vars) hx h
  simp only [Qn, hx, Option.bind_some]
  by_cases h1 : x.Var ≤ last
  ·simp only [h1, decide_true, if_true, Option.bind_some]; exact Ok.ret ⟨rfl, hb fun h => by
    have := h.1; unfold InR at this
    rcases g3 with g3 | ⟨a, ha, e⟩
    ·omega
    ·have := h.2 a ha; omega⟩
  by_cases h2 : (vars.length : Int) ≤ x.Var
  ·simp only [h1, h2, decide_true, decide_false, Bool.false_eq_true, if_false, if_true, Option.bind_some]; exact Ok.ret ⟨rfl, hb fun h => by have := h.1; unfold InR at this; omega⟩
  by_cases h3 : x.Val < 0
  ·simp only [h1, h2, h3, decide_true, decide_false, Bool.false_eq_true, if_false, if_true, Option.bind_some]; exact Ok.ret ⟨rfl, hb fun h => by have := h.1; unfold InR at this; omega⟩
  rw [Qdu (by omega) (by omega)]
  by_cases h4 : vars[x.Var.toNat]?.getD 0 ≤ x.Val
  ·simp only [h1, h2, h3, h4, decide_true, decide_false, Bool.false_eq_true, if_false, if_true, Option.bind_some]; exact Ok.ret ⟨rfl, hb fun h => by have := h.1; unfold InR at this; omega⟩
  have hr : InR vars x := by unfold InR; omega
  simp only [h1, h2, h3, h4, decide_true, decide_false, Bool.false_eq_true, if_false, if_true, Option.bind_some]
  refine Ok.ret ⟨Qej hx h hr fun b hb => ?_, by omega, fun a ha => ?_, .inr ⟨x, ?_, Z⟩⟩
  ·have := g2 b hb; omega
  ·rw [QG hx] at ha
   rcases List.mem_append.1 ha with ha | ha
   ·have := g2 a ha; omega
   ·simp only [List.mem_singleton] at ha; subst ha; omega
  ·rw [QG hx]; simp
 ·rintro r ⟨rfl, hn⟩
  exact Ok.ret (by simp [hn])
 ·rintro _ ⟨h, _⟩
  rw [List.take_length] at h
  exact Ok.ret (by simp [h])
theorem KG {α R β : Type} {xs : List α} {B : Nat → Unit → Option (Ctl Unit R)} {r : R} {kr : R → Option β} {k : Unit → Option β} (p : α → Prop) [DecidablePred p] (h : ∀ i x, xs[i]? = some x → B i () = some (if p x then .next () else .ret r)) :
  ctl (Js B xs.length 0 ()) kr k = open Classical in if ∀ x ∈ xs, p x then k () else kr r := by
 classical
 rw [YF (p := fun i => decide (∀ x, xs[i]? = some x → p x)) (r := r)]
 ·have : ((List.range xs.length).all fun i => decide (∀ x, xs[i]? = some x → p x)) = true ↔ ∀ x ∈ xs, p x := by
   rw [List.all_eq_true]
   constructor
   ·intro h x hx
    obtain ⟨i, hi⟩ := List.mem_iff_getElem?.1 hx
    have hlt := (List.getElem?_eq_some_iff.1 hi).1
    have := h i (by simpa using hlt)
    simp only [decide_eq_true_eq] at this
    exact this x hi
   ·intro h i hi
    simp only [decide_eq_true_eq]
    intro x hx
    exact h x (List.mem_of_getElem? hx)
  by_cases hall : ∀ x ∈ xs, p x
  ·rw [if_pos (this.2 hall), if_pos hall]
  ·rw [if_neg (fun h => hall (this.1 h)), if_neg hall]
 ·intro i hi
  obtain ⟨x, hx⟩ := Qy hi
  rw [h i x hx]
  by_cases hp : p x
  ·have : decide (∀ y, xs[i]? = some y → p y) = true := by simp [hx, hp]
   rw [this, if_pos hp]; rfl
  ·have : decide (∀ y, xs[i]? = some y → p y) = false := by simp [hx, hp]
   rw [this, if_neg hp]; rfl
open Classical in
theorem Qlc (vars s : List Int) (hl : s.length = vars.length) : ((List.range s.length).all fun i => decide (∀ x d, s[i]? = some x → vars[i]? = some d → 0 ≤ x ∧ x < d)) = decide (StateOK vars s) := by
 rw [Bool.eq_iff_iff, List.all_eq_true, decide_eq_true_eq]
 constructor
 ·intro h
  refine ⟨hl, fun i x d hx hd => ?_⟩
  have hlt := (List.getElem?_eq_some_iff.1 hx).1
  have := h i (by simpa using hlt)
  simp only [decide_eq_true_eq] at this
  exact this x d hx hd
 ·intro h i hi
  simp only [decide_eq_true_eq]
  exact h.r i
open Classical in
theorem QlP (vars s : List Int) : YJ vars s = some (decide (StateOK vars s)) := by
 unfold YJ
 by_cases hl : s.length = vars.length
 ·have hl' : (s.length : Int) = (vars.length : Int) := by omega
  simp only [hl', decide_true, Bool.not_true, Bool.false_eq_true, if_false]
  rw [YF (p := fun i => decide (∀ x d, s[i]? = some x → vars[i]? = some d → 0 ≤ x ∧ x < d)) (r := false), Qlc vars s hl]
  ·cases decide (StateOK vars s) <;> rfl
  ·intro i hi
   obtain ⟨x, hx⟩ := Qy hi
   obtain ⟨d, hd⟩ := Qy (show i < vars.length by omega)
   simp only [Qn, hx, hd, Option.bind_some, Option.some.injEq, forall_eq']
   by_cases h1 : x < 0
   ·have : ¬ (0 ≤ x ∧ x < d) := by omega
    simp only [h1, this, decide_true, decide_false, if_true, Option.bind_some, forall_const, Bool.false_eq_true, if_false]
    simp [this]
   ·by_cases h2 : d ≤ x
    ·have : ¬ (0 ≤ x ∧ x < d) := by omega
     simp [h1, h2, this]
    ·have : 0 ≤ x ∧ x < d := by omega
     simp [h1, h2, this]
 ·have hl' : ¬ (s.length : Int) = (vars.length : Int) := by omega
  have : ¬ StateOK vars s := fun h => hl h.len
  simp [hl', this]
open Classical in
theorem QiO (vars s : List Int) : YY vars s = some (decide (StateOK vars s)) := by
 rw [← QlP]
 unfold YY YJ
 congr 1
 congr 1
 congr 1
 funext i _
 cases Qz s (i : Int) <;> rfl
theorem Qn9 {s : ByteArray} {R : Type} (r : R) (j : Nat) (x : Int) (hj : (bytesOf s)[j]? = some x) :
  (((Qz (bytesOf s) (j : Int)).bind fun x => if decide (x < 32) then (some true) else (some (decide (126 < x)))).bind fun (z : Bool) => if z then (some (Ctl.ret r)) else (some (Ctl.next ()))) = some (if 32 ≤ x ∧ x ≤ 126 then Ctl.next () else .ret r) := by
 rw [Qn, hj]
 simp only [Option.bind_some]
 by_cases h1 : x < 32
 ·have : ¬ (32 ≤ x ∧ x ≤ 126) := by omega
  simp [h1, this]
 ·by_cases h2 : 126 < x
  ·have : ¬ (32 ≤ x ∧ x ≤ 126) := by omega
   simp [h1, h2, this]
  ·have : 32 ≤ x ∧ x ≤ 126 := by omega
   simp [h1, h2, this]
theorem QgB (s : ByteArray) : (s.size : Int).toNat = (bytesOf s).length := by rw [Qdj]; simp
open Classical in
theorem Qod (s : ByteArray) (h : s.size ≤ 9223372036854775807) : Qa3 s = some (decide (s.size ≤ 256 ∧ ∀ c ∈ bytesOf s, 32 ≤ c ∧ c ≤ 126)) := by
 unfold Qa3
 have hm : must (decide ((s.size : Int) ≤ 9223372036854775807)) = some () := by unfold must; rw [if_pos (by simp; omega)]
 simp only [hm, Option.bind_some, QgB]
 rw [KG (r := false) (fun c => 32 ≤ c ∧ c ≤ 126) (fun i x hx => Qn9 false i x hx)]
 by_cases h1 : ∀ c ∈ bytesOf s, 32 ≤ c ∧ c ≤ 126
 ·rw [if_pos h1]
  by_cases h2 : s.size ≤ 256
  ·have : (s.size : Int) ≤ 256 := by omega
   simp only [this, h2, h1, decide_true, true_and]
   simp; exact h1
  ·have : ¬ (s.size : Int) ≤ 256 := by omega
   simp [this, h2]
 ·rw [if_neg h1]
  simp [h1]
open Classical in
theorem tOp (vars : List Int) (o : Op) (hv : vars.length ≤ 4096) : Yo vars o = some (decide (OpOK vars o)) := by
 unfold Yo
 by_cases h1 : o.Cost < 0
 ·have : ¬ OpOK vars o := fun h => by have := h.c0; omega
  simp [h1, this]
 by_cases h2 : 1048576 < o.Cost
 ·have : ¬ OpOK vars o := fun h => by have := h.c1; omega
  simp [h1, h2, this]
 by_cases h3 : 64 < (o.Effs.length : Int)
 ·have : ¬ OpOK vars o := fun h => by have := h.ne; omega
  simp [h1, h2, h3, this]
 by_cases h4 : 256 < (o.Name.size : Int)
 ·have : ¬ OpOK vars o := fun h => by have := h.nm; omega
  simp [h1, h2, h3, h4, this]
 simp only [h1, h2, h3, h4, decide_false, Bool.false_eq_true, if_false, QfV _ _ hv, Option.bind_some]
 by_cases h5 : FactsOK vars o.Pre
 ·have hm : must (decide ((o.Name.size : Int) ≤ 9223372036854775807)) = some () := by unfold must; rw [if_pos (by simp; omega)]
  simp only [h5, decide_true, Bool.not_true, Bool.false_eq_true, if_false, hm, Option.bind_some, QgB]
  rw [KG (r := false) (fun c => 32 ≤ c ∧ c ≤ 126) (fun i x hx => Qn9 false i x hx)]
  by_cases h6 : ∀ c ∈ bytesOf o.Name, 32 ≤ c ∧ c ≤ 126
  ·rw [if_pos h6, KG (r := false) (fun e => FactsOK vars e.When ∧ InR vars ⟨e.Var, e.Val⟩)]
   ·by_cases h7 : ∀ e ∈ o.Effs, FactsOK vars e.When ∧ InR vars ⟨e.Var, e.Val⟩
    ·rw [if_pos h7]
     have : OpOK vars o := ⟨by omega, by omega, by omega, by omega, h6, h5, h7⟩
     simp [this]
    ·rw [if_neg h7]
     have : ¬ OpOK vars o := fun h => h7 h.eff
     simp [this]
   ·intro i e he
    have hone : FactsOK vars [⟨e.Var, e.Val⟩] ↔ InR vars ⟨e.Var, e.Val⟩ := ⟨fun h => h.r _ (by simp), fun h => ⟨by simpa using h, by simp⟩⟩
    simp only [Qn, he, Option.bind_some]
    by_cases h7 : FactsOK vars e.When
    ·by_cases h8 : InR vars ⟨e.Var, e.Val⟩ <;> simp [h7, h8, hone, QfV _ _ hv]
    ·simp [h7]
  ·rw [if_neg h6]
   have : ¬ OpOK vars o := fun h => h6 h.ch
   simp [this]
 ·have : ¬ OpOK vars o := fun h => h5 h.pre
  simp [h5, this]
open Classical in
theorem Qoz (t : Task) : Qbo t = some (decide (GoodT t)) := by
 unfold Qbo
 by_cases h1 : 64 < (t.Vars.length : Int)
 ·have : ¬ GoodT t := fun h => by have := h.nv; omega
  simp [h1, this]
 by_cases h2 : 4096 < (t.Ops.length : Int)
 ·have : ¬ GoodT t := fun h => by have := h.no; omega
  simp [h1, h2, this]
 have hv : t.Vars.length ≤ 4096 := by omega
 simp only [h1, h2, decide_false, Bool.or_self, Bool.false_eq_true, if_false]
 rw [KG (r := false) (fun n => 1 ≤ n ∧ n ≤ 64)]
 ·by_cases h3 : ∀ n ∈ t.Vars, 1 ≤ n ∧ n ≤ 64
  ·rw [if_pos h3, QlP]
   by_cases h4 : StateOK t.Vars t.Init
   ·by_cases h5 : FactsOK t.Vars t.Goal
    ·simp only [h4, h5, decide_true, Bool.not_true, Bool.false_eq_true, if_false, Option.bind_some, QfV _ _ hv]
     rw [KG (r := false) (fun o => OpOK t.Vars o)]
     ·by_cases h6 : ∀ o ∈ t.Ops, OpOK t.Vars o
      ·rw [if_pos h6]
       have : GoodT t := ⟨by omega, by omega, h3, h4, h5, h6⟩
       simp [this]
      ·rw [if_neg h6]
       have : ¬ GoodT t := fun h => h6 h.op
       simp [this]
     ·intro i o ho
      simp only [Qn, ho, Option.bind_some, tOp _ _ hv]
      by_cases h6 : OpOK t.Vars o <;> simp [h6]
    ·have : ¬ GoodT t := fun h => h5 h.goal
     simp [h4, h5, this, QfV _ _ hv]
   ·have : ¬ GoodT t := fun h => h4 h.init
    simp [h4, this]
  ·rw [if_neg h3]
   have : ¬ GoodT t := fun h => h3 h.v
   simp [this]
 ·intro i n hn
  simp only [Qn, hn, Option.bind_some]
  by_cases ha : n < 1
  ·have : ¬ (1 ≤ n ∧ n ≤ 64) := by omega
   simp [ha, this]
  ·by_cases hb : 64 < n
   ·have : ¬ (1 ≤ n ∧ n ≤ 64) := by omega
    simp [ha, hb, this]
   ·have : 1 ≤ n ∧ n ≤ 64 := by omega
    simp [ha, hb, this]
/-! ### the program's check -/
def Qf0 (t : Task) : List (List Fact) := t.Goal :: t.Ops.flatMap fun o => o.Pre :: o.Effs.map fun e => e.When
theorem QdS (t : Task) (ho : t.Ops.length ≤ 4096) (he : ∀ o ∈ t.Ops, o.Effs.length ≤ 64) : Kl t = some (Qf0 t) := by
 unfold Kl
 rw [Yr t.Ops (fun o => o.Pre :: o.Effs.map fun e => e.When) (s0 := [t.Goal])]
 ·rfl
 ·intro i o s hi hs
  have hm := List.mem_of_getElem? hi
  have hlt := (List.getElem?_eq_some_iff.1 hi).1
  have hsl : s.length ≤ 1 + 4096 * 65 := by
   rw [hs, List.length_append]
   have := Qb7 (xs := t.Ops.take i) (g := fun o => o.Pre :: o.Effs.map fun e => e.When) (M := 65) (fun x hx => by
    have := he x (List.mem_of_mem_take hx)
    simp; omega)
   have h2 : (t.Ops.take i).length * 65 ≤ 4096 * 65 := Nat.mul_le_mul_right _ (by rw [List.length_take]; omega)
   simp only [List.length_singleton]; omega
  simp only [Qn, hi, Option.bind_some]
  rw [Jh (by simp only [List.length_singleton]; omega)]
  simp only [Option.bind_some]
  rw [Yr o.Effs (fun e => [e.When]) (s0 := s ++ [o.Pre])]
  ·simp [Kp]
  ·intro j e u hj hu
   have hjl := (List.getElem?_eq_some_iff.1 hj).1
   have := he o hm
   simp only [Qn, hj, Option.bind_some]
   rw [Jh]
   ·rfl
   ·rw [hu, Kp]
    simp only [List.length_append, List.length_map, List.length_take, List.length_singleton]
    omega
open Classical in
theorem Qno (l : List (List Fact)) : Yq l = some (!decide (∀ f ∈ l, f.length ≤ 64)) := by
 unfold Yq
 have h1 : Ok (K9 l) fun n => (0 ≤ n ↔ ¬ ∀ f ∈ l, f.length ≤ 64) := by
  unfold K9
  refine Ok.ctl (fun i _ => ∀ f ∈ l.take i, f.length ≤ 64) (fun n => 0 ≤ n ∧ ¬ ∀ f ∈ l, f.length ≤ 64) (by simp) ?_ ?_ ?_
  ·rintro i _ hi h
   obtain ⟨x, hx⟩ := Qy hi
   have ht : Yi x = decide (64 < (x.length : Int)) := by
    have := Qch x
    unfold Yj at this
    exact (Zu this).symm
   simp only [Qn, hx, Option.bind_some, ht]
   by_cases hb : 64 < (x.length : Int)
   ·simp only [hb, decide_true, if_true]
    exact Ok.ret ⟨by omega, fun h => by have := h x (List.mem_of_getElem? hx); omega⟩
   ·simp only [hb, decide_false, Bool.false_eq_true, if_false]
    refine Ok.ret fun f hf => ?_
    rw [QG hx] at hf
    rcases List.mem_append.1 hf with hf | hf
    ·exact h f hf
    ·simp only [List.mem_singleton] at hf; subst hf; omega
  ·rintro r ⟨h1, h2⟩
   exact Ok.ret ⟨fun _ => h2, fun _ => h1⟩
  ·intro _ h
   rw [List.take_length] at h
   exact Ok.ret ⟨fun h => by omega, fun h' => absurd h h'⟩
 obtain ⟨n, hn, h2⟩ := h1
 rw [hn]
 simp only [Option.bind_some, Option.some.injEq]
 by_cases h3 : ∀ f ∈ l, f.length ≤ 64
 ·have : ¬ 0 ≤ n := fun h => h2.1 h h3
  simp only [this, h3, decide_false]; simp; exact h3
 ·have : 0 ≤ n := h2.2 h3
  simp only [this, decide_true]; simp; simpa using h3
open Classical in
theorem large_ok' (t : Task) : Ok (Qa4 t) fun b => b = false ↔ t.Vars.length ≤ 64 ∧ t.Ops.length ≤ 4096 ∧ (∀ o ∈ t.Ops, o.Effs.length ≤ 64) ∧ ∀ f ∈ Qf0 t, f.length ≤ 64 := by
 unfold Qa4
 by_cases h1 : 64 < (t.Vars.length : Int)
 ·simp only [h1, decide_true, Bool.true_or, if_true]
  exact Ok.ret ⟨fun h => (by cases h), fun h => by omega⟩
 by_cases h2 : 4096 < (t.Ops.length : Int)
 ·simp only [h1, h2, decide_true, Bool.or_true, if_true]
  exact Ok.ret ⟨fun h => (by cases h), fun h => by omega⟩
 simp only [h1, h2, decide_false, Bool.or_self, Bool.false_eq_true, if_false]
 rw [KG (r := true) (fun o => o.Effs.length ≤ 64)]
 ·by_cases h3 : ∀ o ∈ t.Ops, o.Effs.length ≤ 64
  ·rw [if_pos h3, QdS t (by omega) h3]
   simp only [Option.bind_some, Qno]
   refine Ok.ret ⟨fun h => ⟨by omega, by omega, h3, by simpa using h⟩, fun h => by simpa using h.2.2.2⟩
  ·rw [if_neg h3]
   exact Ok.ret ⟨fun h => (by cases h), fun h => absurd h.2.2.1 h3⟩
 ·intro i o ho
  simp only [Qn, ho, Option.bind_some]
  by_cases h : 64 < (o.Effs.length : Int)
  ·have : ¬ o.Effs.length ≤ 64 := by omega
   simp [h, this]
  ·have : o.Effs.length ≤ 64 := by omega
   simp [h, this]
theorem QgR {t : Task} (h : GoodT t) : ∀ f ∈ Qf0 t, FactsOK t.Vars f := by
 intro f hf
 unfold Qf0 at hf
 rcases List.mem_cons.1 hf with rfl | hf
 ·exact h.goal
 ·obtain ⟨o, ho, hf⟩ := List.mem_flatMap.1 hf
  rcases List.mem_cons.1 hf with rfl | hf
  ·exact (h.op o ho).pre
  ·obtain ⟨e, he, rfl⟩ := List.mem_map.1 hf
   exact ((h.op o ho).eff e he).1
open Classical in
theorem Qg1 (t : Task) (hn : ∀ o ∈ t.Ops, o.Name.size ≤ 9223372036854775807) : Ok (YI t) fun e => e = none ↔ GoodT t := by
 unfold YI
 obtain ⟨b, hb, h0⟩ := large_ok' t
 rw [hb]
 simp only [Option.bind_some]
 cases b with
 | true =>
  simp only [if_true]
  refine Ok.ret ⟨fun h => (by cases h), fun h => ?_⟩
  have := h0.2 ⟨h.nv, h.no, fun o ho => (h.op o ho).ne, fun f hf => Nat.le_trans (QgR h f hf).len h.nv⟩
  cases this
 | false =>
  obtain ⟨g1, g2, g3, g4⟩ := h0.1 rfl
  simp only [Bool.false_eq_true, if_false]
  rw [KG (r := some 1) (fun n => 1 ≤ n ∧ n ≤ 64)]
  ·by_cases h1 : ∀ n ∈ t.Vars, 1 ≤ n ∧ n ≤ 64
   ·rw [if_pos h1, KG (r := some 1) (fun o => 0 ≤ o.Cost ∧ o.Cost ≤ 1048576)]
    ·by_cases h2 : ∀ o ∈ t.Ops, 0 ≤ o.Cost ∧ o.Cost ≤ 1048576
     ·rw [if_pos h2, QiO]
      by_cases h3 : StateOK t.Vars t.Init
      ·simp only [h3, decide_true, Bool.not_true, Option.bind_some, Bool.false_eq_true, if_false, QdS t g2 g3]
       rw [KG (r := some 2) (fun f => FactsOK t.Vars f)]
       ·by_cases h4 : ∀ f ∈ Qf0 t, FactsOK t.Vars f
        ·rw [if_pos h4, KG (r := some 2) (fun o => ∀ e ∈ o.Effs, InR t.Vars ⟨e.Var, e.Val⟩)]
         ·by_cases h5 : ∀ o ∈ t.Ops, ∀ e ∈ o.Effs, InR t.Vars ⟨e.Var, e.Val⟩
          ·rw [if_pos h5, KG (r := some 8) (fun o => o.Name.size ≤ 256 ∧ ∀ c ∈ bytesOf o.Name, 32 ≤ c ∧ c ≤ 126)]
           ·by_cases h6 : ∀ o ∈ t.Ops, o.Name.size ≤ 256 ∧ ∀ c ∈ bytesOf o.Name, 32 ≤ c ∧ c ≤ 126
            ·rw [if_pos h6]
             refine Ok.ret ⟨fun _ => ⟨g1, g2, h1, h3, h4 _ (by simp [Qf0]), fun o ho => ⟨(h2 o ho).1, (h2 o ho).2, g3 o ho, (h6 o ho).1, (h6 o ho).2, h4 _ ?_, fun e he => ⟨h4 _ ?_, h5 o ho e he⟩⟩⟩, fun _ => rfl⟩
             ·unfold Qf0
              exact List.mem_cons_of_mem _ (List.mem_flatMap.2 ⟨o, ho, by simp⟩)
             ·unfold Qf0
              exact List.mem_cons_of_mem _ (List.mem_flatMap.2 ⟨o, ho, List.mem_cons_of_mem _ (List.mem_map.2 ⟨e, he, Z⟩)⟩)
            ·rw [if_neg h6]
             exact Ok.ret ⟨fun h => (by cases h), fun h => absurd (fun o ho => ⟨(h.op o ho).nm, (h.op o ho).ch⟩) h6⟩
           ·intro i o ho
            have := hn o (List.mem_of_getElem? ho)
            simp only [Qn, ho, Option.bind_some, Qod _ this]
            by_cases h : o.Name.size ≤ 256 ∧ ∀ c ∈ bytesOf o.Name, 32 ≤ c ∧ c ≤ 126
            ·rw [decide_eq_true h, if_pos h]; rfl
            ·rw [decide_eq_false h, if_neg h]; rfl
          ·rw [if_neg h5]
           exact Ok.ret ⟨fun h => (by cases h), fun h => absurd (fun o ho e he => ((h.op o ho).eff e he).2) h5⟩
         ·intro i o ho
          simp only [Qn, ho, Option.bind_some]
          rw [KG (r := some 2) (fun e => InR t.Vars ⟨e.Var, e.Val⟩)]
          ·by_cases h : ∀ e ∈ o.Effs, InR t.Vars ⟨e.Var, e.Val⟩
           ·rw [if_pos h, if_pos h]
           ·rw [if_neg h, if_neg h]
          ·intro j e he
           have hone : FactsOK t.Vars [⟨e.Var, e.Val⟩] ↔ InR t.Vars ⟨e.Var, e.Val⟩ := ⟨fun h => h.r _ (by simp), fun h => ⟨by simpa using h, by simp⟩⟩
           simp only [Qn, he, Option.bind_some, QlQ, hone]
           by_cases h : InR t.Vars ⟨e.Var, e.Val⟩ <;> simp [h]
        ·rw [if_neg h4]
         exact Ok.ret ⟨fun h => (by cases h), fun h => absurd (QgR h) h4⟩
       ·intro i f hf
        simp only [Qn, hf, Option.bind_some, QlQ]
        by_cases h : FactsOK t.Vars f <;> simp [h]
      ·simp only [h3, decide_false, Bool.not_false, Option.bind_some, if_true]
       exact Ok.ret ⟨fun h => (by cases h), fun h => absurd h.init h3⟩
     ·rw [if_neg h2]
      exact Ok.ret ⟨fun h => (by cases h), fun h => absurd (fun o ho => ⟨(h.op o ho).c0, (h.op o ho).c1⟩) h2⟩
    ·intro i o ho
     simp only [Qn, ho, Option.bind_some]
     by_cases ha : o.Cost < 0
     ·have : ¬ (0 ≤ o.Cost ∧ o.Cost ≤ 1048576) := by omega
      simp [ha, this]
     ·by_cases hb : 1048576 < o.Cost
      ·have : ¬ (0 ≤ o.Cost ∧ o.Cost ≤ 1048576) := by omega
       simp [ha, hb, this]
      ·have : 0 ≤ o.Cost ∧ o.Cost ≤ 1048576 := by omega
       simp [ha, hb, this]
   ·rw [if_neg h1]
    exact Ok.ret ⟨fun h => (by cases h), fun h => absurd h.v h1⟩
  ·intro i n hn
   simp only [Qn, hn, Option.bind_some]
   by_cases ha : n < 1
   ·have : ¬ (1 ≤ n ∧ n ≤ 64) := by omega
    simp [ha, this]
   ·by_cases hb : 64 < n
    ·have : ¬ (1 ≤ n ∧ n ≤ 64) := by omega
     simp [ha, hb, this]
    ·have : 1 ≤ n ∧ n ≤ 64 := by omega
     simp [ha, hb, this]
end Go.Pw
