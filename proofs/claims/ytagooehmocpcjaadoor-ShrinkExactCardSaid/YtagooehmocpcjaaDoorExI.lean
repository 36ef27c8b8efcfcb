/-
  Decimal numerals below 100, and the texts that are made of them: they tell apart what they are made of.
-/
import Derived.Test.YtagooehmocpcjaaDoorExN
set_option maxHeartbeats 4000000
set_option maxRecDepth 100000
set_option linter.unusedSimpArgs false
set_option linter.unusedVariables false
namespace Go.Pw
def digs (n : Nat) : List UInt8 := if n < 10 then [UInt8.ofNat (48 + n)] else [UInt8.ofNat (48 + n / 10), UInt8.ofNat (48 + n % 10)]
def itoaB (n : Nat) : ByteArray := ⟨(digs n).toArray⟩
theorem itoa_gen {n : Nat} (h : n < 1000000000) : strconv_Itoa_p (n : Int) = some ⟨(Lib.decDigits n).toArray⟩ := by
  unfold strconv_Itoa_p
  rw [if_pos (by omega)]
  unfold Lib.itoa
  rw [if_neg (by omega), Int.toNat_natCast]
theorem dec_digs {n : Nat} (h : n < 100) : Lib.decDigits n = digs n := by
  unfold digs
  by_cases h1 : n < 10
  · rw [if_pos h1, Lib.decDigits_one h1]
  · rw [if_neg h1, Lib.decDigits_two h1 h]
theorem itoa_ok {n : Nat} (h : n < 100) : strconv_Itoa_p (n : Int) = some (itoaB n) := by
  rw [itoa_gen (by omega), dec_digs h]; rfl
/-- The value that a numeral has. -/
def undig : List UInt8 → Nat
  | [a] => a.toNat - 48
  | [a, b] => (a.toNat - 48) * 10 + (b.toNat - 48)
  | _ => 0
theorem digs_all : ∀ k : Fin 100, undig (digs k.val) = k.val ∧ (digs k.val).all (fun b => decide (48 ≤ b.toNat) && decide (b.toNat ≤ 57)) = true ∧ 1 ≤ (digs k.val).length ∧ (digs k.val).length ≤ 2 := by decide +kernel
def isDig (b : UInt8) : Prop := 48 ≤ b.toNat ∧ b.toNat ≤ 57
theorem digs_dig {n : Nat} (h : n < 100) : ∀ b ∈ digs n, isDig b := by
  intro b hb
  have := List.all_eq_true.1 (digs_all ⟨n, h⟩).2.1 b hb
  simpa [isDig] using this
theorem digs_ne {n : Nat} (h : n < 100) : digs n ≠ [] := by
  intro e
  have := (digs_all ⟨n, h⟩).2.2.1
  simp only [e] at this
  simp at this
theorem digs_len {n : Nat} (h : n < 100) : (digs n).length ≤ 2 := (digs_all ⟨n, h⟩).2.2.2
theorem digs_inj {n m : Nat} (hn : n < 100) (hm : m < 100) (e : digs n = digs m) : n = m := by
  have h1 := (digs_all ⟨n, hn⟩).1
  have h2 := (digs_all ⟨m, hm⟩).1
  simp only at h1 h2
  rw [← h1, ← h2, e]
/-- Digits, then something else: the digits are known. -/
theorem dig_split : ∀ {a b r q : List UInt8}, (∀ x ∈ a, isDig x) → (∀ x ∈ b, isDig x) → (∀ x, r.head? = some x → ¬ isDig x) → (∀ x, q.head? = some x → ¬ isDig x) → a ++ r = b ++ q → a = b ∧ r = q
  | [], [], _, _, _, _, _, _, e => ⟨rfl, e⟩
  | [], y :: b, r, q, _, hb, hr, _, e => by
    simp only [List.nil_append] at e
    exact absurd (hb y (by simp)) (hr y (by rw [e]; rfl))
  | x :: a, [], r, q, ha, _, _, hq, e => by
    simp only [List.nil_append] at e
    exact absurd (ha x (by simp)) (hq x (by rw [← e]; rfl))
  | x :: a, y :: b, r, q, ha, hb, hr, hq, e => by
    simp only [List.cons_append, List.cons.injEq] at e
    obtain ⟨h1, h2⟩ := dig_split (fun z hz => ha z (by simp [hz])) (fun z hz => hb z (by simp [hz])) hr hq e.2
    exact ⟨by rw [e.1, h1], h2⟩
/-- The text of pairs: ' a:b' for each. -/
def pairT : List (Nat × Nat) → List UInt8
  | [] => []
  | p :: ps => (32 :: digs p.1) ++ (58 :: digs p.2) ++ pairT ps
theorem pairT_head (ps : List (Nat × Nat)) : ∀ x, (pairT ps).head? = some x → ¬ isDig x := by
  intro x h
  cases ps with
  | nil => simp [pairT] at h
  | cons p ps => simp [pairT] at h; subst h; simp [isDig]
theorem pairT_append (ps qs : List (Nat × Nat)) : pairT (ps ++ qs) = pairT ps ++ pairT qs := by
  induction ps with
  | nil => rfl
  | cons p ps ih => simp [pairT, ih]
theorem pairT_len (ps : List (Nat × Nat)) (h : ∀ p ∈ ps, p.1 < 100 ∧ p.2 < 100) : (pairT ps).length ≤ ps.length * 6 := by
  induction ps with
  | nil => simp [pairT]
  | cons p ps ih =>
    have h1 := digs_len (h p (by simp)).1
    have h2 := digs_len (h p (by simp)).2
    have := ih fun q hq => h q (by simp [hq])
    simp only [pairT, List.length_append, List.length_cons]
    omega
theorem pairT_inj : ∀ {ps qs : List (Nat × Nat)}, (∀ p ∈ ps, p.1 < 100 ∧ p.2 < 100) → (∀ p ∈ qs, p.1 < 100 ∧ p.2 < 100) → pairT ps = pairT qs → ps = qs
  | [], [], _, _, _ => rfl
  | [], q :: qs, _, _, e => by simp [pairT] at e
  | p :: ps, [], _, _, e => by simp [pairT] at e
  | p :: ps, q :: qs, hp, hq, e => by
    obtain ⟨p1, p2⟩ := hp p (by simp)
    obtain ⟨q1, q2⟩ := hq q (by simp)
    simp only [pairT, List.cons_append, List.append_assoc, List.cons.injEq, true_and] at e
    have nd : ∀ (l : List UInt8) x, (58 :: l).head? = some x → ¬ isDig x := by intro l x h; simp at h; subst h; simp [isDig]
    obtain ⟨h1, h2⟩ := dig_split (digs_dig p1) (digs_dig q1) (nd _) (nd _) e
    simp only [List.cons.injEq, true_and] at h2
    obtain ⟨h3, h4⟩ := dig_split (digs_dig p2) (digs_dig q2) (pairT_head ps) (pairT_head qs) h2
    have e1 := digs_inj p1 q1 h1
    have e2 := digs_inj p2 q2 h3
    rw [pairT_inj (fun r hr => hp r (by simp [hr])) (fun r hr => hq r (by simp [hr])) h4, show p = q from Prod.ext e1 e2]
/-- The text of a state: its class, and the pairs. -/
def stateT (c : Nat) (ps : List (Nat × Nat)) : List UInt8 := digs c ++ pairT ps
theorem stateT_inj {c d : Nat} {ps qs : List (Nat × Nat)} (hc : c < 100) (hd : d < 100) (hp : ∀ p ∈ ps, p.1 < 100 ∧ p.2 < 100) (hq : ∀ p ∈ qs, p.1 < 100 ∧ p.2 < 100) (e : stateT c ps = stateT d qs) : c = d ∧ ps = qs := by
  obtain ⟨h1, h2⟩ := dig_split (digs_dig hc) (digs_dig hd) (pairT_head ps) (pairT_head qs) e
  exact ⟨digs_inj hc hd h1, pairT_inj hp hq h2⟩

/-! ### bytes -/
theorem bytesOf_u8 (l : List UInt8) : bytesOf ⟨l.toArray⟩ = l.map fun b => (b.toNat : Int) := by simp [bytesOf]
theorem u8s_bytes (l : List UInt8) : u8s (l.map fun b => (b.toNat : Int)) = l := by
  simp only [u8s, List.map_map]
  conv => rhs; rw [← List.map_id l]
  apply List.map_congr_left
  intro b _
  simp
theorem strOf_bytes {l : List UInt8} (h : l ≠ []) : strOf (l.map fun b => (b.toNat : Int)) = some ⟨l.toArray⟩ := by
  unfold strOf
  rw [if_pos, u8s_bytes]
  refine ⟨by simpa using h, List.all_eq_true.2 ?_⟩
  intro n hn
  obtain ⟨b, _, rfl⟩ := List.mem_map.1 hn
  have := b.toNat_lt
  simp; omega
theorem appS_bytes {l q : List UInt8} (h : l.length + q.length ≤ 140737488355328) : appS (l.map fun b => (b.toNat : Int)) ⟨q.toArray⟩ = some ((l ++ q).map fun b => (b.toNat : Int)) := by
  unfold appS
  rw [if_pos (by rw [List.length_map]; exact h), bytesOf_u8, List.map_append]
theorem cat_bytes {l q : List UInt8} (h : l.length + q.length ≤ 100000) : cat ⟨l.toArray⟩ ⟨q.toArray⟩ = some ⟨(l ++ q).toArray⟩ := by
  unfold cat
  rw [if_pos (by show l.length + q.length ≤ _; omega)]
  exact congrArg some (ba_ext (by simp))
end Go.Pw
