/-
  Decimal numerals of any number, and the texts of labels: they tell apart what they are made of.
-/
import Derived.Test.YtagooehmocpcjaaDoorExRf
set_option maxHeartbeats 4000000
set_option maxRecDepth 100000
set_option linter.unusedSimpArgs false
set_option linter.unusedVariables false
namespace Go.Pw
/-- The number that a row of digits spells. -/
def spell (l : List UInt8) : Nat := l.foldl (fun a b => a * 10 + (b.toNat - 48)) 0
theorem u8_small {n : Nat} (h : n < 10) : (UInt8.ofNat (48 + n)).toNat = 48 + n := by
  rw [UInt8.toNat_ofNat']
  exact Nat.mod_eq_of_lt (by omega)
theorem spell_dec (n : Nat) : spell (Lib.decDigits n) = n := by
  induction n using Nat.strongRecOn with
  | ind n ih =>
    rw [Lib.decDigits]
    by_cases h : n < 10
    · rw [dif_pos h]
      simp only [spell, List.foldl_cons, List.foldl_nil, u8_small h]
      omega
    · rw [dif_neg h]
      have h1 := ih (n / 10) (by omega)
      unfold spell at h1 ⊢
      rw [List.foldl_append, h1]
      simp only [List.foldl_cons, List.foldl_nil, u8_small (show n % 10 < 10 by omega)]
      omega
theorem dec_inj {n m : Nat} (h : Lib.decDigits n = Lib.decDigits m) : n = m := by rw [← spell_dec n, h, spell_dec]
theorem dec_dig (n : Nat) : ∀ b ∈ Lib.decDigits n, isDig b := by
  induction n using Nat.strongRecOn with
  | ind n ih =>
    rw [Lib.decDigits]
    by_cases h : n < 10
    · rw [dif_pos h]
      intro b hb
      simp only [List.mem_singleton] at hb
      subst hb
      unfold isDig
      rw [u8_small h]
      omega
    · rw [dif_neg h]
      intro b hb
      rcases List.mem_append.1 hb with hb | hb
      · exact ih (n / 10) (by omega) b hb
      · simp only [List.mem_singleton] at hb
        subst hb
        unfold isDig
        rw [u8_small (show n % 10 < 10 by omega)]
        omega
theorem dec_ne (n : Nat) : Lib.decDigits n ≠ [] := by
  rw [Lib.decDigits]
  by_cases h : n < 10
  · rw [dif_pos h]; simp
  · rw [dif_neg h]; simp
theorem dec_len {n : Nat} (h : n < 10000000000) : (Lib.decDigits n).length ≤ 10 := by
  have key : ∀ (k n : Nat), n < 10 ^ (k + 1) → (Lib.decDigits n).length ≤ k + 1 := by
    intro k
    induction k with
    | zero => intro n hn; rw [Lib.decDigits, dif_pos (by simpa using hn)]; simp
    | succ k ih =>
      intro n hn
      rw [Lib.decDigits]
      by_cases h : n < 10
      · rw [dif_pos h]; simp
      · rw [dif_neg h, List.length_append]
        have := ih (n / 10) (by rw [Nat.pow_succ] at hn; omega)
        simp only [List.length_singleton]; omega
  exact key 9 n (by omega)
/-- The text of blocks: ' |' and the block's pairs, for each. -/
def blocksT : List (List (Nat × Nat)) → List UInt8
  | [] => []
  | ps :: bs => [32, 124] ++ pairT ps ++ blocksT bs
theorem blocksT_append (a b : List (List (Nat × Nat))) : blocksT (a ++ b) = blocksT a ++ blocksT b := by
  induction a with
  | nil => rfl
  | cons p a ih => simp [blocksT, ih]
theorem blocksT_head (bs : List (List (Nat × Nat))) : ∀ x, (blocksT bs).head? = some x → ¬ isDig x := by
  intro x h
  cases bs with
  | nil => simp [blocksT] at h
  | cons p ps => simp [blocksT] at h; subst h; simp [isDig]
/-- Behind pairs: a block or nothing. -/
theorem pair_block : ∀ {ps qs : List (Nat × Nat)} {a b : List (List (Nat × Nat))}, (∀ p ∈ ps, p.1 < 100 ∧ p.2 < 100) → (∀ p ∈ qs, p.1 < 100 ∧ p.2 < 100) → pairT ps ++ blocksT a = pairT qs ++ blocksT b → ps = qs ∧ blocksT a = blocksT b
  | [], [], _, _, _, _, e => ⟨rfl, e⟩
  | [], q :: qs, a, b, _, hq, e => by
    exfalso
    have hd := digs_ne (hq q (by simp)).1
    have hdd := digs_dig (hq q (by simp)).1
    cases hc : digs q.1 with
    | nil => exact hd hc
    | cons c r =>
      have hcd : isDig c := hdd c (by rw [hc]; simp)
      cases a with
      | nil => simp [pairT, blocksT] at e
      | cons x a =>
        simp [pairT, blocksT, hc] at e
        have := e.1
        subst this
        simp [isDig] at hcd
  | p :: ps, [], a, b, hp, _, e => by
    exfalso
    have hd := digs_ne (hp p (by simp)).1
    have hdd := digs_dig (hp p (by simp)).1
    cases hc : digs p.1 with
    | nil => exact hd hc
    | cons c r =>
      have hcd : isDig c := hdd c (by rw [hc]; simp)
      cases b with
      | nil => simp [pairT, blocksT] at e
      | cons x b =>
        simp [pairT, blocksT, hc] at e
        have := e.1
        subst this
        simp [isDig] at hcd
  | p :: ps, q :: qs, a, b, hp, hq, e => by
    obtain ⟨p1, p2⟩ := hp p (by simp)
    obtain ⟨q1, q2⟩ := hq q (by simp)
    simp only [pairT, List.cons_append, List.append_assoc, List.cons.injEq, true_and] at e
    have nd : ∀ (l : List UInt8) x, (58 :: l).head? = some x → ¬ isDig x := by intro l x h; simp at h; subst h; simp [isDig]
    obtain ⟨h1, h2⟩ := dig_split (digs_dig p1) (digs_dig q1) (nd _) (nd _) e
    simp only [List.cons.injEq, true_and] at h2
    have hnd : ∀ (ps : List (Nat × Nat)) (a : List (List (Nat × Nat))) x, (pairT ps ++ blocksT a).head? = some x → ¬ isDig x := by
      intro ps a x hx
      cases ps with
      | nil => exact blocksT_head a x (by simpa [pairT] using hx)
      | cons y ys => exact pairT_head (y :: ys) x (by simpa [pairT] using hx)
    obtain ⟨h3, h4⟩ := dig_split (digs_dig p2) (digs_dig q2) (hnd ps a) (hnd qs b) h2
    have e1 := digs_inj p1 q1 h1
    have e2 := digs_inj p2 q2 h3
    obtain ⟨h5, h6⟩ := pair_block (fun r hr => hp r (by simp [hr])) (fun r hr => hq r (by simp [hr])) h4
    exact ⟨by rw [h5, show p = q from Prod.ext e1 e2], h6⟩
theorem blocksT_inj : ∀ {a b : List (List (Nat × Nat))}, a.length = b.length → (∀ l ∈ a, ∀ p ∈ l, p.1 < 100 ∧ p.2 < 100) → (∀ l ∈ b, ∀ p ∈ l, p.1 < 100 ∧ p.2 < 100) → blocksT a = blocksT b → a = b
  | [], [], _, _, _, _ => rfl
  | [], _ :: _, h, _, _, _ => by simp at h
  | _ :: _, [], h, _, _, _ => by simp at h
  | p :: a, q :: b, h, ha, hb, e => by
    simp only [blocksT, List.append_assoc, List.cons_append, List.nil_append, List.cons.injEq, true_and] at e
    obtain ⟨h1, h2⟩ := pair_block (ha p (by simp)) (hb q (by simp)) e
    rw [h1, blocksT_inj (by simpa using h) (fun l hl => ha l (by simp [hl])) (fun l hl => hb l (by simp [hl])) h2]
/-- The text of a label: its cost and its blocks. -/
def labelT (c : Nat) (bs : List (List (Nat × Nat))) : List UInt8 := Lib.decDigits c ++ blocksT bs
theorem labelT_inj {c d : Nat} {a b : List (List (Nat × Nat))} (hl : a.length = b.length) (ha : ∀ l ∈ a, ∀ p ∈ l, p.1 < 100 ∧ p.2 < 100) (hb : ∀ l ∈ b, ∀ p ∈ l, p.1 < 100 ∧ p.2 < 100) (e : labelT c a = labelT d b) : c = d ∧ a = b := by
  obtain ⟨h1, h2⟩ := dig_split (dec_dig c) (dec_dig d) (blocksT_head a) (blocksT_head b) e
  exact ⟨dec_inj h1, blocksT_inj hl ha hb h2⟩
theorem blocksT_len (bs : List (List (Nat × Nat))) {M : Nat} (h : ∀ l ∈ bs, (∀ p ∈ l, p.1 < 100 ∧ p.2 < 100) ∧ l.length ≤ M) : (blocksT bs).length ≤ bs.length * (2 + M * 6) := by
  induction bs with
  | nil => simp [blocksT]
  | cons p bs ih =>
    have h1 := pairT_len p (h p (by simp)).1
    have h2 := (h p (by simp)).2
    have h3 := ih fun q hq => h q (by simp [hq])
    have h4 : p.length * 6 ≤ M * 6 := Nat.mul_le_mul_right _ h2
    simp only [blocksT, List.length_append, List.length_cons, List.length_nil]
    rw [Nat.add_mul, Nat.one_mul]
    omega
end Go.Pw
