/-
  slices.Compact in plain Lean: what it computes, for whatever elements. No program in sight.
-/
import Derived.Test.YtdhfofhginfdnaaB0
import Derived.Test.YtdhfofhginfdnaaLB
set_option maxHeartbeats 4000000
set_option linter.unusedSimpArgs false
set_option linter.unusedVariables false
namespace Go.Pw
theorem get_some {α : Type} {xs : List α} {i : Nat} (h : i < xs.length) : ∃ y, xs[i]? = some y := ⟨xs[i], by simp [h]⟩
/-- What slices.Compact computes (eq: the test of elements; z: the zero element): the new length, and the row behind. -/
noncomputable def compactG {α : Type} (eq : α → α → Bool) (z : α) (s : List α) : Option (Nat × (List α)) :=
  if decide ((s.length : Int) < 2) then (some ((s).length, s))
  else (ctl (whileC (R := (Nat × (List α))) (fun (k : Int) => if decide (k < (s.length : Int)) then ((idx s k).bind fun x =>
  (idx s (IntKind.i64.wrap (k - 1))).bind fun y =>
  if eq x y then ((view s k (s.length : Int)).bind fun n =>
  ctl (whileC (R := (Nat × (List α))) (un3 fun (k9 : Int) (k2 : Int) (l : (List α)) => if decide (k2 < (n : Int)) then ((idxV l k n k2).bind fun a =>
  (idxV l k n (IntKind.i64.wrap (k2 - 1))).bind fun b =>
  (if !(eq a b) then ((idxV l k n k2).bind fun c =>
  (idx l k9).bind fun d =>
  (setI l k9 c).bind fun l' =>
  some (IntKind.i64.wrap (k9 + 1), l'))
  else (some (k9, l))).bind (un2 fun (k9 : Int) (l : (List α)) => some (Ctl.next (k9, IntKind.i64.wrap (k2 + 1), l))))
  else (some (Ctl.brk (k9, k2, l)))) (k, 1, s)) (fun r => some (Ctl.ret r)) (un3 fun (k9 : Int) (k2 : Int) (l : (List α)) => (view l k9 (l.length : Int)).bind fun n1 =>
  (view ((l).take (k9).toNat ++ List.replicate n1 z ++ (l).drop ((k9).toNat + n1)) 0 k9).bind fun n2 =>
  some (Ctl.ret (n2, (l).take (k9).toNat ++ List.replicate n1 z ++ (l).drop ((k9).toNat + n1)))))
  else (some (Ctl.next (IntKind.i64.wrap (k + 1)))))
  else (some (Ctl.brk k))) 1) (fun r => some r) (fun (k : Int) => some ((s).length, s)))
open Classical in
/-- Without elements that equal the one before. -/
noncomputable def dd {α : Type} : Option α → List α → List α
  | _, [] => []
  | p, x :: r => if p = some x then dd (some x) r else x :: dd (some x) r
def lastOr {α : Type} (p : Option α) (l : List α) : Option α := match l.getLast? with | some x => some x | none => p
open Classical in
theorem dd_snoc {α : Type} (x : α) : ∀ (l : List α) (p : Option α), dd p (l ++ [x]) = dd p l ++ (if lastOr p l = some x then [] else [x])
  | [], p => by by_cases h : p = some x <;> simp [dd, lastOr, h]
  | y :: l, p => by
    have ih := dd_snoc x l (some y)
    have e : lastOr p (y :: l) = lastOr (some y) l := by cases l <;> simp [lastOr, List.getLast?_cons]
    rw [e]
    simp only [List.cons_append, dd]
    by_cases h : p = some y
    · rw [if_pos h, if_pos h, ih]
    · rw [if_neg h, if_neg h, ih]; rfl
theorem dd_len {α : Type} : ∀ (l : List α) (p : Option α), (dd p l).length ≤ l.length
  | [], p => by simp [dd]
  | y :: l, p => by
    have ih := dd_len l (some y)
    simp only [dd]
    split <;> simp <;> omega
theorem dd_sub {α : Type} : ∀ (l : List α) (p : Option α), (dd p l).Sublist l
  | [], p => by simp [dd]
  | y :: l, p => by
    have ih := dd_sub l (some y)
    simp only [dd]
    split
    · exact ih.cons _
    · exact ih.cons_cons _
theorem dd_mem {α : Type} {x : α} : ∀ (l : List α) (p : Option α), x ∈ l → x ∈ dd p l ∨ p = some x
  | [], p, h => by simp at h
  | y :: l, p, h => by
    simp only [dd]
    rcases List.mem_cons.1 h with rfl | h
    · by_cases hp : p = some x
      · exact .inr hp
      · rw [if_neg hp]; exact .inl (by simp)
    · rcases dd_mem l (some y) h with h1 | h1
      · left; split
        · exact h1
        · exact List.mem_cons_of_mem _ h1
      · cases h1
        by_cases hp : p = some x
        · exact .inr hp
        · rw [if_neg hp]; exact .inl (by simp)
theorem mem_dd {α : Type} {x : α} (l : List α) : x ∈ dd none l ↔ x ∈ l := ⟨fun h => (dd_sub l none).subset h, fun h => (dd_mem l none h).resolve_right (by simp)⟩
/-- Of a sorted list: strictly sorted. -/
theorem dd_strict {α : Type} {le lt : α → α → Prop} (h : ∀ a b, le a b → a ≠ b → lt a b) (tr : ∀ a b c, le a b → lt b c → lt a c) (tr2 : ∀ a b c, le a b → le b c → le a c) : ∀ (l : List α) (p : Option α), l.Pairwise le → (∀ q, p = some q → ∀ x ∈ l, le q x) → (dd p l).Pairwise lt ∧ ∀ q, p = some q → ∀ x ∈ dd p l, lt q x
  | [], p, _, _ => by simp [dd]
  | y :: l, p, hs, hp => by
    obtain ⟨h1, h2⟩ := List.pairwise_cons.1 hs
    obtain ⟨i1, i2⟩ := dd_strict h tr tr2 l (some y) h2 fun q hq x hx => by cases hq; exact h1 x hx
    simp only [dd]
    by_cases e : p = some y
    · rw [if_pos e]
      exact ⟨i1, fun q hq x hx => by rw [e] at hq; cases hq; exact i2 y rfl x hx⟩
    · rw [if_neg e]
      refine ⟨List.pairwise_cons.2 ⟨i2 y rfl, i1⟩, fun q hq x hx => ?_⟩
      have hqy : le q y := hp q hq y (by simp)
      rcases List.mem_cons.1 hx with rfl | hx
      · exact h q x hqy fun e2 => e (by rw [hq, e2])
      · exact tr q y x hqy (i2 y rfl x hx)
theorem lastOr_take {α : Type} {s : List α} {i : Nat} (h0 : 0 < i) (h : i ≤ s.length) : lastOr none (s.take i) = s[i - 1]? := by
  unfold lastOr
  rw [List.getLast?_take, if_neg (by omega)]
  obtain ⟨y, hy⟩ := get_some (show i - 1 < s.length by omega)
  rw [hy]
  simp
open Classical in
theorem dd_step {α : Type} {s : List α} {i : Nat} {x y : α} (h0 : 0 < i) (hx : s[i]? = some x) (hy : s[i - 1]? = some y) : dd none (s.take (i + 1)) = dd none (s.take i) ++ (if x = y then [] else [x]) := by
  have hi : i < s.length := (List.getElem?_eq_some_iff.1 hx).1
  rw [List.take_add_one, hx, Option.toList_some, dd_snoc, lastOr_take h0 (by omega), hy]
  by_cases e : x = y
  · subst e; simp
  · rw [if_neg (fun h => e (Zu h).symm), if_neg e]
theorem compact_ok {α : Type} {eq : α → α → Bool} (heq : ∀ a b, eq a b = true ↔ a = b) (z : α) (s : List α) (hl : s.length ≤ 4000000000) :
    Ok (compactG eq z s) fun r => r.1 ≤ s.length ∧ r.2.length = s.length ∧ r.2.take r.1 = dd none s := by
  unfold compactG
  by_cases h2 : (s.length : Int) < 2
  · rw [if_pos (by simpa using h2)]
    refine Ok.ret ⟨Nat.le_refl _, rfl, ?_⟩
    match s, h2 with
    | [], _ => rfl
    | [x], _ => simp [dd]
    | _ :: _ :: _, h2 => simp at h2; omega
  · rw [if_neg (by simpa using h2)]
    have hlen : 2 ≤ s.length := by omega
    refine Ok.while (fun k : Int => ∃ n : Nat, k = (n : Int) ∧ 1 ≤ n ∧ n ≤ s.length ∧ dd none (s.take n) = s.take n) (fun _ => dd none s = s) (fun r => r.1 ≤ s.length ∧ r.2.length = s.length ∧ r.2.take r.1 = dd none s) (fun k => s.length - k.toNat) ⟨1, rfl, Nat.le_refl _, by omega, ?_⟩ ?_ (fun r h => Ok.ret h) (fun k h => Ok.ret ⟨Nat.le_refl _, rfl, by rw [List.take_length, h]⟩)
    · match s, hlen with
      | x :: _, _ => simp [dd]
    · rintro k ⟨n, rfl, hn1, hn2, hd⟩
      by_cases hlt : (n : Int) < (s.length : Int)
      · simp only [hlt, decide_true, if_true]
        obtain ⟨x, hx⟩ := get_some (show n < s.length by omega)
        obtain ⟨y, hy⟩ := get_some (show n - 1 < s.length by omega)
        have hw : IntKind.i64.wrap ((n : Int) - 1) = ((n - 1 : Nat) : Int) := by rw [wrap_id (by omega) (by omega)]; omega
        have hw2 : IntKind.i64.wrap ((n : Int) + 1) = ((n + 1 : Nat) : Int) := by rw [wrap_id (by omega) (by omega)]; omega
        simp only [hw, hw2, idx_nat, hx, hy, Option.bind_some]
        have hstep := dd_step (by omega) hx hy
        by_cases he : eq x y = true
        · have hxy := (heq x y).1 he
          simp only [he, if_true]
          rw [if_pos hxy, List.append_nil] at hstep
          have hv : view s (n : Int) (s.length : Int) = some (s.length - n) := by
            unfold view; rw [if_pos (by omega)]; congr 1; omega
          rw [hv]
          simp only [Option.bind_some]
          refine (Ok.while (fun t : Int × Int × List α => ∃ a b : Nat, t.1 = (a : Int) ∧ t.2.1 = (b : Int) ∧ 1 ≤ b ∧ b ≤ s.length - n ∧ a ≤ n + b - 1 ∧ t.2.2.length = s.length ∧ (dd none (s.take (n + b))).length = a ∧ t.2.2.take a = dd none (s.take (n + b)) ∧ ∀ j, n + b - 1 ≤ j → t.2.2[j]? = s[j]?)
            (fun t => ∃ a : Nat, t.1 = (a : Int) ∧ a ≤ s.length ∧ t.2.2.length = s.length ∧ t.2.2.take a = dd none s) (fun _ => False) (fun t => s.length - t.2.1.toNat) ⟨n, 1, rfl, rfl, Nat.le_refl _, by omega, by omega, rfl, ?_, ?_, fun j _ => rfl⟩ ?_ (fun _ h => h.elim) ?_).mono fun c hc => hc
          · rw [hstep, hd]; simp; omega
          · rw [hstep, hd]
          · rintro ⟨a', b', l⟩ ⟨a, b, e1, e2, hb1, hb2, ha, hll, hdl, ht, hge⟩
            simp only at e1 e2 hll ht hge
            subst e1 e2
            simp only [un3]
            by_cases hbn : (b : Int) < ((s.length - n : Nat) : Int)
            · simp only [hbn, decide_true, if_true]
              obtain ⟨u, hu⟩ := get_some (show n + b < s.length by omega)
              obtain ⟨v, hv⟩ := get_some (show n + b - 1 < s.length by omega)
              have hw3 : IntKind.i64.wrap ((b : Int) - 1) = ((b - 1 : Nat) : Int) := by rw [wrap_id (by omega) (by omega)]; omega
              have hw4 : IntKind.i64.wrap ((b : Int) + 1) = ((b + 1 : Nat) : Int) := by rw [wrap_id (by omega) (by omega)]; omega
              have hw5 : IntKind.i64.wrap ((a : Int) + 1) = ((a + 1 : Nat) : Int) := by rw [wrap_id (by omega) (by omega)]; omega
              have i1 : idxV l (n : Int) (s.length - n) (b : Int) = some u := by
                unfold idxV; rw [if_pos (by omega), show (n : Int) + (b : Int) = ((n + b : Nat) : Int) by omega, idx_nat, hge _ (by omega), hu]
              have i2 : idxV l (n : Int) (s.length - n) ((b - 1 : Nat) : Int) = some v := by
                unfold idxV; rw [if_pos (by omega), show (n : Int) + ((b - 1 : Nat) : Int) = ((n + b - 1 : Nat) : Int) by omega, idx_nat, hge _ (by omega), hv]
              have hst := dd_step (s := s) (i := n + b) (by omega) hu hv
              simp only [hw3, hw4, hw5, i1, i2, Option.bind_some]
              by_cases huv : eq u v = true
              · have := (heq u v).1 huv
                rw [if_pos this, List.append_nil] at hst
                simp only [huv, Bool.not_true, Bool.false_eq_true, if_false, Option.bind_some, un2]
                refine ⟨_, rfl, fun s' e => ?_, fun s' e => (by cases e), fun r e => (by cases e)⟩
                cases e
                refine ⟨⟨a, b + 1, rfl, rfl, by omega, by omega, by omega, hll, ?_, ?_, fun j hj => hge j (by omega)⟩, ?_⟩
                · rw [← Nat.add_assoc, hst]; exact hdl
                · rw [← Nat.add_assoc, hst]; exact ht
                · simp only; omega
              · have hne : u ≠ v := fun e => huv ((heq u v).2 e)
                have huv' : eq u v = false := by simpa using huv
                rw [if_neg hne] at hst
                obtain ⟨d, hdd⟩ := get_some (show a < l.length by omega)
                simp only [huv', Bool.not_false, if_true, Option.bind_some, un2, idx_nat, hdd]
                rw [setI_nat (by omega)]
                simp only [Option.bind_some]
                refine ⟨_, rfl, fun s' e => ?_, fun s' e => (by cases e), fun r e => (by cases e)⟩
                cases e
                refine ⟨⟨a + 1, b + 1, rfl, rfl, by omega, by omega, by omega, by simp [hll], ?_, ?_, fun j hj => ?_⟩, ?_⟩
                · rw [← Nat.add_assoc, hst, List.length_append, hdl]; rfl
                · rw [← Nat.add_assoc, hst, ← ht, List.take_add_one, List.getElem?_set_self (by omega), List.take_set_of_le (by omega)]
                  rfl
                · rw [List.getElem?_set_ne (by omega)]; exact hge j (by omega)
                · simp only; omega
            · have hbe : n + b = s.length := by omega
              simp only [hbn, decide_false, Bool.false_eq_true, if_false]
              refine ⟨_, rfl, fun s' e => (by cases e), fun s' e => ?_, fun r e => (by cases e)⟩
              cases e
              refine ⟨a, rfl, by omega, hll, ?_⟩
              rw [hbe, List.take_length] at ht
              exact ht
          · rintro ⟨a', b', l⟩ ⟨a, e1, ha, hll, ht⟩
            simp only at e1 hll ht
            subst e1
            simp only [un3]
            have hv1 : view l (a : Int) (l.length : Int) = some (l.length - a) := by
              unfold view; rw [if_pos (by omega)]; congr 1; omega
            have hll2 : (l.take ((a : Int)).toNat ++ List.replicate (l.length - a) z ++ l.drop (((a : Int)).toNat + (l.length - a))).length = s.length := by simp; omega
            have hv2 : view (l.take ((a : Int)).toNat ++ List.replicate (l.length - a) z ++ l.drop (((a : Int)).toNat + (l.length - a))) 0 (a : Int) = some a := by
              unfold view; rw [hll2, if_pos (by omega)]; congr 1
            rw [hv1]
            simp only [Option.bind_some]
            rw [hv2]
            simp only [Option.bind_some]
            refine ⟨_, rfl, fun s' e => (by cases e), fun s' e => (by cases e), fun r e => ?_⟩
            cases e
            refine ⟨ha, hll2, ?_⟩
            rw [List.append_assoc, List.take_append_of_le_length (by simp; omega), List.take_take, ← ht]
            simp
        · have hne : x ≠ y := fun e => he ((heq x y).2 e)
          have he' : eq x y = false := by simpa using he
          simp only [he', Bool.false_eq_true, if_false]
          rw [if_neg hne, hd] at hstep
          refine ⟨_, rfl, fun s' e => ?_, fun s' e => (by cases e), fun r e => (by cases e)⟩
          cases e
          refine ⟨⟨n + 1, rfl, by omega, by omega, ?_⟩, by omega⟩
          rw [hstep, List.take_add_one, hx]
          rfl
      · have : n = s.length := by omega
        subst this
        simp only [hlt, decide_false, Bool.false_eq_true, if_false]
        refine ⟨_, rfl, fun s' e => (by cases e), fun s' e => ?_, fun r e => (by cases e)⟩
        rw [List.take_length] at hd
        exact hd
end Go.Pw
