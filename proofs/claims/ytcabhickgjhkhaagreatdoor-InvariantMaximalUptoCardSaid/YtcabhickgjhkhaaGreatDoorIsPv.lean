/-
  Lists without equal neighbours, in plain Lean: slices.Compact and slices.CompactFunc.
-/
import Derived.Test.YtcabhickgjhkhaaGreatDoorIsPx
import Derived.Test.YtcabhickgjhkhaaGreatDoorIsPz
set_option maxHeartbeats 4000000
set_option linter.unusedSimpArgs false
set_option linter.unusedVariables false
namespace Go.Pw
/-- A list without what equals its predecessor. -/
def dedA {α : Type} [DecidableEq α] : List α → List α
  | [] => []
  | [x] => [x]
  | x :: y :: r => if x = y then dedA (y :: r) else x :: dedA (y :: r)
section
variable {α : Type} [DecidableEq α]
theorem ded_snoc (y z : α) : ∀ xs : List α, dedA (xs ++ [y] ++ [z]) = if y = z then dedA (xs ++ [y]) else dedA (xs ++ [y]) ++ [z]
  | [] => by
    show dedA [y, z] = if y = z then dedA [y] else dedA [y] ++ [z]
    by_cases h : y = z
    · subst h; simp [dedA]
    · simp [dedA, h]
  | [x] => by
    have ih : dedA [y, z] = if y = z then dedA [y] else dedA [y] ++ [z] := ded_snoc y z ([] : List α)
    show (if x = y then dedA [y, z] else x :: dedA [y, z]) = if y = z then (if x = y then dedA [y] else x :: dedA [y]) else (if x = y then dedA [y] else x :: dedA [y]) ++ [z]
    rw [ih]
    by_cases h : y = z
    · rw [if_pos h, if_pos h]
    · rw [if_neg h, if_neg h]
      by_cases e : x = y
      · rw [if_pos e, if_pos e]
      · rw [if_neg e, if_neg e]; rfl
  | x :: w :: xs => by
    have ih := ded_snoc y z (w :: xs)
    simp only [List.cons_append] at ih ⊢
    rw [dedA, dedA, ih]
    by_cases h : y = z
    · rw [if_pos h, if_pos h]
    · rw [if_neg h, if_neg h]
      by_cases e : x = w
      · rw [if_pos e, if_pos e]
      · rw [if_neg e, if_neg e]; rfl
theorem ded_step {s : List α} {p : Nat} {x y : α} (hx : s[p]? = some x) (hy : s[p + 1]? = some y) : dedA (s.take (p + 2)) = if x = y then dedA (s.take (p + 1)) else dedA (s.take (p + 1)) ++ [y] := by
  rw [take_snoc hy, take_snoc hx]
  exact ded_snoc x y _
theorem ded_mem {x : α} : ∀ {s : List α}, x ∈ dedA s ↔ x ∈ s
  | [] => Iff.rfl
  | [y] => Iff.rfl
  | y :: z :: r => by
    have ih := ded_mem (x := x) (s := z :: r)
    rw [dedA]
    by_cases e : y = z
    · rw [if_pos e, ih, e]
      exact ⟨fun h => List.mem_cons_of_mem _ h, fun h => (List.mem_cons.1 h).elim (fun q => q ▸ List.mem_cons_self ..) id⟩
    · rw [if_neg e, List.mem_cons, ih, List.mem_cons (a := x) (b := y)]
theorem ded_sub : ∀ (s : List α), (dedA s).Sublist s
  | [] => .slnil
  | [y] => List.Sublist.refl _
  | y :: z :: r => by
    rw [dedA]
    split
    · exact (ded_sub (z :: r)).cons _
    · exact (ded_sub (z :: r)).cons_cons _
/-- A list that ascends (not strictly) loses its doubles. -/
theorem ded_pw {R : α → α → Prop} {Q : α → α → Prop} (hRQ : ∀ x y, R x y → x ≠ y → Q x y) (hQ : ∀ x y z, Q x y → R y z → Q x z) : ∀ {s : List α}, s.Pairwise R → (dedA s).Pairwise Q
  | [], _ => List.Pairwise.nil
  | [y], _ => List.pairwise_singleton ..
  | y :: z :: r, h => by
    obtain ⟨h1, h2⟩ := List.pairwise_cons.1 h
    rw [dedA]
    by_cases e : y = z
    · rw [if_pos e]; exact ded_pw hRQ hQ h2
    · rw [if_neg e]
      refine List.pairwise_cons.2 ⟨fun x hx => ?_, ded_pw hRQ hQ h2⟩
      have hyz := hRQ y z (h1 z (List.mem_cons_self ..)) e
      rcases List.mem_cons.1 (ded_mem.1 hx) with rfl | hx
      · exact hyz
      · exact hQ y z x hyz ((List.pairwise_cons.1 h2).1 x hx)
end
theorem equal_ok (s t : List Int) : slices_Equal_int_p s t = some (decide (s = t)) := by
  unfold slices_Equal_int_p
  by_cases hl : s.length = t.length
  · rw [if_neg (by simp [hl])]
    rw [ctl_forI (xs := s) (r := false) (s := ()) (fun i x => t[i]? = some x)]
    · by_cases h : s = t
      · subst h
        rw [if_pos (fun i x hx => hx), decide_eq_true rfl]
      · rw [if_neg (fun q => h (List.ext_getElem? fun i => by
          cases hx : s[i]? with
          | some x => exact (q i x hx).symm
          | none => exact (List.getElem?_eq_none (by have := List.getElem?_eq_none_iff.1 hx; omega)).symm)), decide_eq_false h]
    · intro i x hx
      obtain ⟨y, hy⟩ := get_len (xs := t) (i := i) (by have := (List.getElem?_eq_some_iff.1 hx).1; omega)
      rw [idx_nat, hx, Option.bind_some, idx_nat, hy, Option.bind_some]
      by_cases e : x = y
      · subst e; simp
      · have e2 : ¬ y = x := fun q => e q.symm
        simp [e, e2]
  · rw [if_pos (by simpa using fun q => hl (by omega)), decide_eq_false (fun q => hl (by rw [q]))]
theorem compact_ok {s : List Int} (hs : s.length ≤ 1000000) : ∃ n l, slices_Compact_int_o_p s = some (n, l) ∧ n ≤ l.length ∧ l.take n = dedA s ∧ l.length = s.length := by
  have key : Ok (slices_Compact_int_o_p s) (fun r => r.1 ≤ r.2.length ∧ r.2.take r.1 = dedA s ∧ r.2.length = s.length) := by
    unfold slices_Compact_int_o_p
    by_cases h2 : (s.length : Int) < 2
    · rw [if_pos (decide_eq_true h2)]
      refine Ok.ret ⟨Nat.le_refl _, ?_, rfl⟩
      simp only
      rw [List.take_length]
      match s, h2 with
      | [], _ => rfl
      | [x], _ => rfl
      | x :: y :: r, h2 => simp at h2; omega
    · rw [if_neg (by simpa using h2)]
      refine Ok.while (fun (k : Int) => 1 ≤ k ∧ k ≤ (s.length : Int) ∧ dedA (s.take k.toNat) = s.take k.toNat) (fun _ => dedA s = s) (fun r => r.1 ≤ r.2.length ∧ r.2.take r.1 = dedA s ∧ r.2.length = s.length) (fun k => ((s.length : Int) - k).toNat)
        ⟨by omega, by omega, ?_⟩ ?_ (fun r h => Ok.ret h) ?_
      · show dedA (s.take 1) = s.take 1
        match s with
        | [] => rfl
        | x :: r => rfl
      · rintro k ⟨h0, h1, hd⟩
        obtain ⟨K, rfl⟩ : ∃ K : Nat, k = (K : Int) + 1 := ⟨(k - 1).toNat, by omega⟩
        by_cases hk : (K : Int) + 1 < (s.length : Int)
        · obtain ⟨x, hx⟩ := get_len (xs := s) (i := K + 1) (by omega)
          obtain ⟨y, hy⟩ := get_len (xs := s) (i := K) (by omega)
          have hst := ded_step hy hx
          have e1 : idx s ((K : Int) + 1) = some x := by rw [show ((K : Int) + 1) = ((K + 1 : Nat) : Int) by simp, idx_nat]; exact hx
          have e2 : idx s (IntKind.i64.wrap ((K : Int) + 1 - 1)) = some y := by rw [wrap_id (by omega) (by omega), show ((K : Int) + 1 - 1) = (K : Int) by omega, idx_nat]; exact hy
          rw [if_pos (decide_eq_true hk), e1, Option.bind_some, e2, Option.bind_some]
          have hd' : dedA (s.take (K + 1)) = s.take (K + 1) := by rw [show ((K : Int) + 1).toNat = K + 1 by omega] at hd; exact hd
          by_cases hxy : x = y
          · rw [if_pos (decide_eq_true hxy)]
            have hv : view s ((K : Int) + 1) (s.length : Int) = some (s.length - (K + 1)) := by
              unfold view
              rw [if_pos (by omega)]
              congr 1
              omega
            rw [hv, Option.bind_some]
            refine (show Ok _ (fun c => (∀ s', c = Ctl.next s' → _) ∧ (∀ s', c = Ctl.brk s' → _) ∧ (∀ r, c = Ctl.ret r → _)) from ?_)
            refine Ok.while (fun (p : Int × Int × List Int) => ∃ a b : Nat, p.1 = (a : Int) ∧ p.2.1 = (b : Int) ∧ K + 1 ≤ a ∧ 1 ≤ b ∧ b ≤ s.length - (K + 1) ∧ a + 1 ≤ K + 1 + b ∧ p.2.2.length = s.length ∧ (∀ i, a ≤ i → p.2.2[i]? = s[i]?) ∧ p.2.2.take a = dedA (s.take (K + 1 + b)))
              (fun p => ∃ a : Nat, p.1 = (a : Int) ∧ a ≤ s.length ∧ p.2.2.length = s.length ∧ p.2.2.take a = dedA s) (fun _ => False) (fun p => ((s.length : Int) - p.2.1).toNat) ⟨K + 1, 1, by simp, rfl, Nat.le_refl _, Nat.le_refl _, by omega, by omega, rfl, fun _ _ => rfl, ?_⟩ ?_ (fun _ h => h.elim) ?_
            · show s.take (K + 1) = dedA (s.take (K + 2))
              rw [hst, if_pos hxy.symm, hd']
            · rintro ⟨k1, k2, l⟩ ⟨a, b, ha, hb, g1, g2, g3, g4, g5, g6, g7⟩
              simp only at ha hb g5 g6 g7
              subst ha hb
              simp only [un3]
              by_cases hb2 : b < s.length - (K + 1)
              · obtain ⟨u, hu⟩ := get_len (xs := s) (i := K + 1 + b) (by omega)
                obtain ⟨v, hv⟩ := get_len (xs := s) (i := K + b) (by omega)
                have hst2 := ded_step (p := K + b) hv (by rw [show K + b + 1 = K + 1 + b by omega]; exact hu)
                have f1 : idxV l ((K : Int) + 1) (s.length - (K + 1)) (b : Int) = some u := by
                  unfold idxV
                  rw [if_pos (by omega), show ((K : Int) + 1 + (b : Int)) = ((K + 1 + b : Nat) : Int) by omega, idx_nat, g6 _ (by omega), hu]
                have f2 : idxV l ((K : Int) + 1) (s.length - (K + 1)) (IntKind.i64.wrap ((b : Int) - 1)) = some v := by
                  rw [wrap_id (by omega) (by omega)]
                  unfold idxV
                  rw [if_pos (by omega), show ((K : Int) + 1 + ((b : Int) - 1)) = ((K + b : Nat) : Int) by omega, idx_nat, g6 _ (by omega), hv]
                rw [if_pos (by rw [decide_eq_true_eq]; omega), f1, Option.bind_some, f2, Option.bind_some]
                by_cases huv : u = v
                · rw [if_neg (by simp [huv]), Option.bind_some, wrap_id (by omega) (by omega)]
                  refine ⟨_, rfl, ?_, (by intro s' h; cases h), (by intro r h; cases h)⟩
                  rintro s' h
                  cases h
                  refine ⟨⟨a, b + 1, rfl, by simp, g1, by omega, by omega, by omega, g5, g6, ?_⟩, by simp only; omega⟩
                  simp only
                  rw [g7, show K + 1 + (b + 1) = K + b + 2 by omega, hst2, if_pos huv.symm, show K + b + 1 = K + 1 + b by omega]
                · obtain ⟨z, hz⟩ := get_len (xs := l) (i := a) (by omega)
                  rw [if_pos (by simp [huv]), Option.bind_some, idx_nat, hz, Option.bind_some, setI_nat (by omega), Option.bind_some, wrap_id (n := (a : Int) + 1) (by omega) (by omega), Option.bind_some, wrap_id (by omega) (by omega)]
                  refine ⟨_, rfl, ?_, (by intro s' h; cases h), (by intro r h; cases h)⟩
                  rintro s' h
                  cases h
                  refine ⟨⟨a + 1, b + 1, by simp, by simp, by omega, by omega, by omega, by omega, by simpa using g5, fun i hi => ?_, ?_⟩, by simp only; omega⟩
                  · simp only
                    rw [List.getElem?_set_ne (by omega)]
                    exact g6 i (by omega)
                  · simp only
                    rw [show K + 1 + (b + 1) = K + b + 2 by omega, hst2, if_neg (fun q => huv q.symm), show K + b + 1 = K + 1 + b by omega, ← g7, take_snoc (x := u) (by rw [List.getElem?_set_self (by omega)]), List.take_set_of_le (by omega)]
              · rw [if_neg (by rw [decide_eq_true_eq]; omega)]
                refine ⟨_, rfl, (by intro s' h; cases h), ?_, (by intro r h; cases h)⟩
                rintro s' h
                cases h
                refine ⟨a, rfl, by omega, g5, ?_⟩
                simp only
                rw [g7, List.take_of_length_le (by omega)]
            · rintro ⟨k1, k2, l⟩ ⟨a, ha, g1, g2, g3⟩
              simp only at ha g2 g3
              subst ha
              simp only [un3]
              have w1 : view l (a : Int) (l.length : Int) = some (s.length - a) := by
                unfold view
                rw [if_pos (by omega)]
                congr 1
                omega
              rw [w1, Option.bind_some]
              have hL : ((l.take (a : Int).toNat ++ List.replicate (s.length - a) 0) ++ l.drop ((a : Int).toNat + (s.length - a))).length = s.length := by
                simp only [List.length_append, List.length_take, List.length_replicate, List.length_drop]
                omega
              have hT : ((l.take (a : Int).toNat ++ List.replicate (s.length - a) 0) ++ l.drop ((a : Int).toNat + (s.length - a))).take a = l.take a := by
                have h3 : (l.take (a : Int).toNat).length = a := by rw [List.length_take]; omega
                rw [List.append_assoc, List.take_append_of_le_length (by omega), List.take_of_length_le (by omega)]
                rfl
              generalize hLL : ((l.take (a : Int).toNat ++ List.replicate (s.length - a) 0) ++ l.drop ((a : Int).toNat + (s.length - a))) = L at hL hT
              have w2 : view L 0 (a : Int) = some a := by
                unfold view
                rw [if_pos (by omega)]
                congr 1
              rw [w2, Option.bind_some]
              refine Ok.ret ⟨(by intro s' h; cases h), (by intro s' h; cases h), ?_⟩
              rintro r h
              cases h
              exact ⟨by simp only; omega, by simp only; rw [hT, g3], hL⟩
          · rw [if_neg (by simpa using hxy), wrap_id (by omega) (by omega)]
            refine ⟨_, rfl, ?_, (by intro s' h; cases h), (by intro r h; cases h)⟩
            rintro s' h
            cases h
            refine ⟨⟨by omega, by omega, ?_⟩, by omega⟩
            rw [show ((K : Int) + 1 + 1).toNat = K + 2 by omega, hst, if_neg (fun q => hxy q.symm), hd', ← take_snoc hx]
        · rw [if_neg (by simpa using hk)]
          refine ⟨_, rfl, (by intro s' h; cases h), ?_, (by intro r h; cases h)⟩
          rintro s' h
          cases h
          rw [List.take_of_length_le (by omega)] at hd
          exact hd
      · rintro k hd
        exact Ok.ret ⟨Nat.le_refl _, by simp only; rw [List.take_length, hd], rfl⟩
  obtain ⟨⟨n, l⟩, h1, h2, h3, h4⟩ := key
  exact ⟨n, l, h1, h2, h3, h4⟩
theorem compactF_all {s : List (List Int)} (hs : s.length ≤ 1000000) : ∃ n l, slices_CompactFunc_int_o_Equal_p s = some (n, l) ∧ n ≤ l.length ∧ l.take n = dedA s ∧ l.length = s.length := by
  have key : Ok (slices_CompactFunc_int_o_Equal_p s) (fun r => r.1 ≤ r.2.length ∧ r.2.take r.1 = dedA s ∧ r.2.length = s.length) := by
    unfold slices_CompactFunc_int_o_Equal_p
    by_cases h2 : (s.length : Int) < 2
    · rw [if_pos (decide_eq_true h2)]
      refine Ok.ret ⟨Nat.le_refl _, ?_, rfl⟩
      simp only
      rw [List.take_length]
      match s, h2 with
      | [], _ => rfl
      | [x], _ => rfl
      | x :: y :: r, h2 => simp at h2; omega
    · rw [if_neg (by simpa using h2)]
      refine Ok.while (fun (k : Int) => 1 ≤ k ∧ k ≤ (s.length : Int) ∧ dedA (s.take k.toNat) = s.take k.toNat) (fun _ => dedA s = s) (fun r => r.1 ≤ r.2.length ∧ r.2.take r.1 = dedA s ∧ r.2.length = s.length) (fun k => ((s.length : Int) - k).toNat)
        ⟨by omega, by omega, ?_⟩ ?_ (fun r h => Ok.ret h) ?_
      · show dedA (s.take 1) = s.take 1
        match s with
        | [] => rfl
        | x :: r => rfl
      · rintro k ⟨h0, h1, hd⟩
        obtain ⟨K, rfl⟩ : ∃ K : Nat, k = (K : Int) + 1 := ⟨(k - 1).toNat, by omega⟩
        by_cases hk : (K : Int) + 1 < (s.length : Int)
        · obtain ⟨x, hx⟩ := get_len (xs := s) (i := K + 1) (by omega)
          obtain ⟨y, hy⟩ := get_len (xs := s) (i := K) (by omega)
          have hst := ded_step hy hx
          have e1 : idx s ((K : Int) + 1) = some x := by rw [show ((K : Int) + 1) = ((K + 1 : Nat) : Int) by simp, idx_nat]; exact hx
          have e2 : idx s (IntKind.i64.wrap ((K : Int) + 1 - 1)) = some y := by rw [wrap_id (by omega) (by omega), show ((K : Int) + 1 - 1) = (K : Int) by omega, idx_nat]; exact hy
          rw [if_pos (decide_eq_true hk), e1, Option.bind_some, e2, Option.bind_some, equal_ok, Option.bind_some]
          have hd' : dedA (s.take (K + 1)) = s.take (K + 1) := by rw [show ((K : Int) + 1).toNat = K + 1 by omega] at hd; exact hd
          by_cases hxy : x = y
          · rw [if_pos (decide_eq_true hxy)]
            have hv : view s ((K : Int) + 1) (s.length : Int) = some (s.length - (K + 1)) := by
              unfold view
              rw [if_pos (by omega)]
              congr 1
              omega
            rw [hv, Option.bind_some]
            refine (show Ok _ (fun c => (∀ s', c = Ctl.next s' → _) ∧ (∀ s', c = Ctl.brk s' → _) ∧ (∀ r, c = Ctl.ret r → _)) from ?_)
            refine Ok.while (fun (p : Int × Int × List (List Int)) => ∃ a b : Nat, p.1 = (a : Int) ∧ p.2.1 = (b : Int) ∧ K + 1 ≤ a ∧ 1 ≤ b ∧ b ≤ s.length - (K + 1) ∧ a + 1 ≤ K + 1 + b ∧ p.2.2.length = s.length ∧ (∀ i, a ≤ i → p.2.2[i]? = s[i]?) ∧ p.2.2.take a = dedA (s.take (K + 1 + b)))
              (fun p => ∃ a : Nat, p.1 = (a : Int) ∧ a ≤ s.length ∧ p.2.2.length = s.length ∧ p.2.2.take a = dedA s) (fun _ => False) (fun p => ((s.length : Int) - p.2.1).toNat) ⟨K + 1, 1, by simp, rfl, Nat.le_refl _, Nat.le_refl _, by omega, by omega, rfl, fun _ _ => rfl, ?_⟩ ?_ (fun _ h => h.elim) ?_
            · show s.take (K + 1) = dedA (s.take (K + 2))
              rw [hst, if_pos hxy.symm, hd']
            · rintro ⟨k1, k2, l⟩ ⟨a, b, ha, hb, g1, g2, g3, g4, g5, g6, g7⟩
              simp only at ha hb g5 g6 g7
              subst ha hb
              simp only [un3]
              by_cases hb2 : b < s.length - (K + 1)
              · obtain ⟨u, hu⟩ := get_len (xs := s) (i := K + 1 + b) (by omega)
                obtain ⟨v, hv⟩ := get_len (xs := s) (i := K + b) (by omega)
                have hst2 := ded_step (p := K + b) hv (by rw [show K + b + 1 = K + 1 + b by omega]; exact hu)
                have f1 : idxV l ((K : Int) + 1) (s.length - (K + 1)) (b : Int) = some u := by
                  unfold idxV
                  rw [if_pos (by omega), show ((K : Int) + 1 + (b : Int)) = ((K + 1 + b : Nat) : Int) by omega, idx_nat, g6 _ (by omega), hu]
                have f2 : idxV l ((K : Int) + 1) (s.length - (K + 1)) (IntKind.i64.wrap ((b : Int) - 1)) = some v := by
                  rw [wrap_id (by omega) (by omega)]
                  unfold idxV
                  rw [if_pos (by omega), show ((K : Int) + 1 + ((b : Int) - 1)) = ((K + b : Nat) : Int) by omega, idx_nat, g6 _ (by omega), hv]
                rw [if_pos (by rw [decide_eq_true_eq]; omega), f1, Option.bind_some, f2, Option.bind_some, equal_ok, Option.bind_some]
                by_cases huv : u = v
                · rw [if_neg (by simp [huv]), Option.bind_some, wrap_id (by omega) (by omega)]
                  refine ⟨_, rfl, ?_, (by intro s' h; cases h), (by intro r h; cases h)⟩
                  rintro s' h
                  cases h
                  refine ⟨⟨a, b + 1, rfl, by simp, g1, by omega, by omega, by omega, g5, g6, ?_⟩, by simp only; omega⟩
                  simp only
                  rw [g7, show K + 1 + (b + 1) = K + b + 2 by omega, hst2, if_pos huv.symm, show K + b + 1 = K + 1 + b by omega]
                · obtain ⟨z, hz⟩ := get_len (xs := l) (i := a) (by omega)
                  rw [if_pos (by simp [huv]), Option.bind_some, idx_nat, hz, Option.bind_some, setI_nat (by omega), Option.bind_some, wrap_id (n := (a : Int) + 1) (by omega) (by omega), Option.bind_some, wrap_id (by omega) (by omega)]
                  refine ⟨_, rfl, ?_, (by intro s' h; cases h), (by intro r h; cases h)⟩
                  rintro s' h
                  cases h
                  refine ⟨⟨a + 1, b + 1, by simp, by simp, by omega, by omega, by omega, by omega, by simpa using g5, fun i hi => ?_, ?_⟩, by simp only; omega⟩
                  · simp only
                    rw [List.getElem?_set_ne (by omega)]
                    exact g6 i (by omega)
                  · simp only
                    rw [show K + 1 + (b + 1) = K + b + 2 by omega, hst2, if_neg (fun q => huv q.symm), show K + b + 1 = K + 1 + b by omega, ← g7, take_snoc (x := u) (by rw [List.getElem?_set_self (by omega)]), List.take_set_of_le (by omega)]
              · rw [if_neg (by rw [decide_eq_true_eq]; omega)]
                refine ⟨_, rfl, (by intro s' h; cases h), ?_, (by intro r h; cases h)⟩
                rintro s' h
                cases h
                refine ⟨a, rfl, by omega, g5, ?_⟩
                simp only
                rw [g7, List.take_of_length_le (by omega)]
            · rintro ⟨k1, k2, l⟩ ⟨a, ha, g1, g2, g3⟩
              simp only at ha g2 g3
              subst ha
              simp only [un3]
              have w1 : view l (a : Int) (l.length : Int) = some (s.length - a) := by
                unfold view
                rw [if_pos (by omega)]
                congr 1
                omega
              rw [w1, Option.bind_some]
              have hL : ((l.take (a : Int).toNat ++ List.replicate (s.length - a) []) ++ l.drop ((a : Int).toNat + (s.length - a))).length = s.length := by
                simp only [List.length_append, List.length_take, List.length_replicate, List.length_drop]
                omega
              have hT : ((l.take (a : Int).toNat ++ List.replicate (s.length - a) []) ++ l.drop ((a : Int).toNat + (s.length - a))).take a = l.take a := by
                have h3 : (l.take (a : Int).toNat).length = a := by rw [List.length_take]; omega
                rw [List.append_assoc, List.take_append_of_le_length (by omega), List.take_of_length_le (by omega)]
                rfl
              generalize hLL : ((l.take (a : Int).toNat ++ List.replicate (s.length - a) []) ++ l.drop ((a : Int).toNat + (s.length - a))) = L at hL hT
              have w2 : view L 0 (a : Int) = some a := by
                unfold view
                rw [if_pos (by omega)]
                congr 1
              rw [w2, Option.bind_some]
              refine Ok.ret ⟨(by intro s' h; cases h), (by intro s' h; cases h), ?_⟩
              rintro r h
              cases h
              exact ⟨by simp only; omega, by simp only; rw [hT, g3], hL⟩
          · rw [if_neg (by simpa using hxy), wrap_id (by omega) (by omega)]
            refine ⟨_, rfl, ?_, (by intro s' h; cases h), (by intro r h; cases h)⟩
            rintro s' h
            cases h
            refine ⟨⟨by omega, by omega, ?_⟩, by omega⟩
            rw [show ((K : Int) + 1 + 1).toNat = K + 2 by omega, hst, if_neg (fun q => hxy q.symm), hd', ← take_snoc hx]
        · rw [if_neg (by simpa using hk)]
          refine ⟨_, rfl, (by intro s' h; cases h), ?_, (by intro r h; cases h)⟩
          rintro s' h
          cases h
          rw [List.take_of_length_le (by omega)] at hd
          exact hd
      · rintro k hd
        exact Ok.ret ⟨Nat.le_refl _, by simp only; rw [List.take_length, hd], rfl⟩
  obtain ⟨⟨n, l⟩, h1, h2, h3, h4⟩ := key
  exact ⟨n, l, h1, h2, h3, h4⟩
end Go.Pw
/-
  The candidates of a small task, in plain Lean: they are found, in order, each once.
-/
set_option maxHeartbeats 4000000
namespace Go.Pw
theorem cands_all {g : Ground} (ha : g.Atoms.length ≤ 14) (hr : ∀ a ∈ g.Atoms, a.Args.length ≤ 20) (hn : NamesG g) :
    ∃ C, invariant_candidates_p g = some C ∧ (∀ c ∈ C, c.length ≤ 1000) ∧ C.Pairwise (fun x y => cmpL x y < 0) ∧ C.length ≤ 200000 := by
  refine (show Ok (invariant_candidates_p g) (fun C => (∀ c ∈ C, c.length ≤ 1000) ∧ C.Pairwise (fun x y => cmpL x y < 0) ∧ C.length ≤ 200000) from ?_)
  unfold invariant_candidates_p
  refine Ok.bind (Ok.mono (simples_all ha hr hn) ?_)
  rintro Y ⟨hY, hy⟩
  refine Ok.bind (Ok.forS (fun j (p : List (List Int) × List (ByteArray × List Int)) => p.1.length ≤ j * 295 ∧ (∀ c ∈ p.1, c.length ≤ 1000) ∧ p.2.length ≤ j ∧ ∀ k r, tget p.2 k = some r → r.length ≤ j ∧ ∀ v ∈ r, 0 ≤ v ∧ v < (j : Int)) ⟨by simp, (by intro c hc; cases hc), by simp, (by intro k r h; cases h)⟩ ?_ ?_)
  · rintro j ⟨out, M⟩ hj ⟨h1, h2, h3, h4⟩
    simp only at h1 h2 h3 h4
    obtain ⟨x, hx⟩ := get_len hj
    obtain ⟨g1, g2, g3⟩ := hy x (List.mem_of_getElem? hx)
    simp only [un2]
    rw [idx_nat, hx, Option.bind_some, ints_clone (by omega), Option.bind_some, app_ok (by simp only [List.length_singleton]; omega), Option.bind_some]
    obtain ⟨r, hr0, hr1, hr2⟩ : ∃ r, thGet M x.rest = some r ∧ r.length ≤ j ∧ ∀ v ∈ r, 0 ≤ v ∧ v < (j : Int) := by
      unfold thGet
      rw [if_pos (by unfold maxLen; omega)]
      cases hg : tget M x.rest with
      | none => exact ⟨[], rfl, by simp, by simp⟩
      | some r => exact ⟨r, rfl, h4 _ r hg⟩
    rw [hr0, Option.bind_some]
    refine Ok.must (by rw [decide_eq_true_eq]; omega) ?_
    refine Ok.bind (Ok.forS (fun i (l : List (List Int)) => l.length ≤ out.length + 1 + i ∧ ∀ c ∈ l, c.length ≤ 1000) ⟨by simp, ?_⟩ ?_ ?_)
    · intro c hc
      rcases List.mem_append.1 hc with hc | hc
      · exact h2 c hc
      · rw [List.mem_singleton] at hc; subst hc; omega
    · rintro i l hi ⟨k1, k2⟩
      obtain ⟨v, hv⟩ := get_len hi
      obtain ⟨v0, v1⟩ := hr2 v (List.mem_of_getElem? hv)
      obtain ⟨z, hz⟩ := get_len (xs := Y) (i := v.toNat) (by omega)
      have hidx : idx Y v = some z := by unfold idx; rw [if_pos v0]; exact hz
      obtain ⟨z1, z2, z3⟩ := hy z (List.mem_of_getElem? hz)
      rw [idx_nat, hv, Option.bind_some, hidx, Option.bind_some]
      refine Ok.bind (Ok.mono (P := fun (l : List (List Int)) => l.length ≤ out.length + 1 + (i + 1) ∧ ∀ c ∈ l, c.length ≤ 1000) ?_ (fun l h => Ok.ret h))
      refine Ok.ite (fun _ => ?_) (fun _ => Ok.ret ⟨by omega, k2⟩)
      rw [Option.bind_some, app_ok (by omega), Option.bind_some]
      unfold sortInts_p
      rw [if_pos (by rw [List.length_append]; omega), Option.bind_some]
      obtain ⟨n, L, e1, e2, e3, e4⟩ := compact_ok (s := (x.atoms ++ z.atoms).mergeSort fun x y => decide (x ≤ y)) (by rw [List.length_mergeSort, List.length_append]; omega)
      rw [e1]
      simp only [Option.bind_some, un2]
      refine Ok.must (decide_eq_true e2) ?_
      rw [app_ok (by simp only [List.length_singleton]; omega), Option.bind_some]
      refine Ok.ret ⟨by rw [List.length_append, List.length_singleton]; omega, fun c hc => ?_⟩
      rcases List.mem_append.1 hc with hc | hc
      · exact k2 c hc
      · rw [List.mem_singleton] at hc
        subst hc
        rw [List.length_take]
        rw [List.length_mergeSort, List.length_append] at e4
        omega
    · rintro l ⟨k1, k2⟩
      rw [app_ok (by simp only [List.length_singleton]; omega), Option.bind_some]
      unfold thPut
      rw [if_pos ⟨by unfold maxLen; omega, by unfold maxLen; omega⟩, Option.bind_some]
      refine Ok.ret ⟨by simp only; omega, k2, ?_, ?_⟩
      · simp only
        rw [tput_length]
        split <;> omega
      · intro k q hq
        simp only at hq
        rw [tget_put] at hq
        split at hq
        · cases hq
          refine ⟨by rw [List.length_append, List.length_singleton]; omega, fun v hv => ?_⟩
          rcases List.mem_append.1 hv with hv | hv
          · have := hr2 v hv; omega
          · rw [List.mem_singleton] at hv; subst hv; omega
        · have := h4 k q hq
          exact ⟨by omega, fun v hv => by have := this.2 v hv; omega⟩
  · rintro ⟨out, M⟩ ⟨h1, h2, h3, h4⟩
    simp only at h1 h2
    simp only [un2]
    unfold sortLists_p
    rw [if_pos (by omega), Option.bind_some]
    obtain ⟨n, L, e1, e2, e3, e4⟩ := compactF_all (s := out.mergeSort fun x y => !decide (cmpL y x < 0)) (by rw [List.length_mergeSort]; omega)
    rw [e1]
    simp only [Option.bind_some]
    refine Ok.must (decide_eq_true e2) ?_
    refine Ok.ret ?_
    rw [e3]
    refine ⟨fun c hc => h2 c (List.mem_mergeSort.1 (ded_mem.1 hc)), ded_pw (R := fun x y => ¬ cmpL y x < 0) (fun x y hxy hne => Classical.byContradiction fun q => hne (cmpL_anti x y q hxy)) (fun x y z q1 q2 => Classical.byContradiction fun q => cmpL_ntrans x z y q q2 q1) (sortL_asc out), ?_⟩
    have := (ded_sub (out.mergeSort fun x y => !decide (cmpL y x < 0))).length_le
    rw [List.length_mergeSort] at this
    omega
end Go.Pw
/-
  The greatest balanced candidates, in plain Lean.
-/
set_option maxHeartbeats 4000000
namespace Go.Pw
def Ins (a b : List Int) : Prop := a.length ≤ b.length ∧ ∀ x ∈ a, x ∈ b
open Classical in
theorem inside_ok {a b : List Int} (hb : b.Pairwise (· < ·)) (hl : b.length ≤ 1000000) : invariant_inside_p a b = some (decide (Ins a b)) := by
  unfold invariant_inside_p
  by_cases h : (b.length : Int) < (a.length : Int)
  · rw [if_pos (decide_eq_true h), dF (fun q : Ins a b => by have := q.1; omega)]
  · rw [if_neg (by simpa using h)]
    rw [ctl_forP (xs := a) (r := false) (fun x => x ∈ b)]
    · by_cases q : ∀ x ∈ a, x ∈ b
      · rw [if_pos q, dT (show Ins a b from ⟨by omega, q⟩)]
      · rw [if_neg q, dF (fun z : Ins a b => q z.2)]
    · intro i x hx
      obtain ⟨n, hn⟩ := bs_asc (t := x) hb hl
      rw [idx_nat, hx, Option.bind_some, hn]
      simp only [Option.bind_some, un2]
      by_cases q : x ∈ b
      · simp [q]
      · simp [q]
def GoodC (g : Ground) (c : List Int) : Prop := 2 ≤ c.length ∧ BalG g c
open Classical in
noncomputable def goodL (g : Ground) (C : List (List Int)) : List (List Int) := C.filter fun c => decide (GoodC g c)
/-- No other list of the row contains this one. -/
def Top (l : List (List Int)) (i : Nat) : Prop := ∀ k, k < l.length → k ≠ i → ¬ Ins (l.getD i []) (l.getD k [])
open Classical in
noncomputable def topL (l : List (List Int)) (n : Nat) : List (List Int) := ((List.range n).filter fun i => decide (Top l i)).map fun i => l.getD i []
theorem getD_get {l : List (List Int)} {i : Nat} {x : List Int} (h : l[i]? = some x) : l.getD i [] = x := by
  rw [List.getD_eq_getElem?_getD, h]; rfl
theorem topL_mem {l : List (List Int)} {c : List Int} (h : c ∈ topL l l.length) : c ∈ l := by
  unfold topL at h
  obtain ⟨i, hi, rfl⟩ := List.mem_map.1 h
  have := List.mem_range.1 (List.mem_filter.1 hi).1
  obtain ⟨x, hx⟩ := get_len this
  rw [getD_get hx]
  exact List.mem_of_getElem? hx
theorem goodL_mem {g : Ground} {C : List (List Int)} {c : List Int} : c ∈ goodL g C ↔ c ∈ C ∧ GoodC g c := by
  classical
  unfold goodL
  rw [List.mem_filter]
  exact and_congr_right fun _ => ⟨fun h => of_decide_eq_true h, fun h => decide_eq_true h⟩
open Classical in
theorem Groups_all {g : Ground} {fu : Nat} {C : List (List Int)} (hv : ValidG g) (hl : LenG g) (hs : SizeOf.sizeOf g ≤ fu) (hC : invariant_candidates_p g = some C) (h1 : ∀ c ∈ C, c.length ≤ 1000) (h2 : C.length ≤ 200000) :
    invariant_Groups_p fu g = some (topL (goodL g C) (goodL g C).length, none) := by
  apply Ok.eq
  unfold invariant_Groups_p
  rw [valid_ok hl hs, hC]
  simp only [hv, decide_true, Bool.not_true, Bool.false_eq_true, if_false, Option.bind_some]
  refine Ok.bind (Ok.forS (fun j (q : List (List Int)) => q = goodL g (C.take j)) (by simp [goodL]) ?_ ?_)
  · rintro j q hj rfl
    obtain ⟨c, hc⟩ := get_len hj
    have hcl := h1 c (List.mem_of_getElem? hc)
    have hlen := List.length_filter_le (fun c => decide (GoodC g c)) (C.take j)
    have hlt := List.length_take_le j C
    have hz : (if decide (2 ≤ (c.length : Int)) = true then (invariant_balanced_p g c).bind fun y102 => some y102 else some false) = some (decide (GoodC g c)) := by
      by_cases h : 2 ≤ (c.length : Int)
      · rw [if_pos (decide_eq_true h), balanced_ok hv hcl, Option.bind_some]
        congr 1
        rw [decide_eq_decide]
        exact ⟨fun q => ⟨by omega, q⟩, fun q => q.2⟩
      · rw [if_neg (by simpa using h), dF (fun q : GoodC g c => by have := q.1; omega)]
    rw [idx_nat, hc, Option.bind_some, hz, Option.bind_some]
    unfold goodL at hlen ⊢
    rw [take_snoc hc, List.filter_append]
    by_cases h : GoodC g c
    · rw [dT h, if_pos rfl, app_ok (by simp only [List.length_singleton]; omega)]
      refine Ok.ret ?_
      simp [h]
    · rw [dF h, if_neg (by simp)]
      refine Ok.ret ?_
      simp [h]
  · rintro q rfl
    rw [List.take_length]
    generalize hG : goodL g C = G
    have hGl : G.length ≤ 200000 := by
      have := List.length_filter_le (fun c => decide (GoodC g c)) C
      rw [← hG]; unfold goodL; omega
    have hGg : ∀ c ∈ G, c.length ≤ 1000 ∧ GoodC g c := fun c hc => by
      rw [← hG] at hc
      have := goodL_mem.1 hc
      exact ⟨h1 c this.1, this.2⟩
    refine Ok.bind (Ok.forS (fun j (q : List (List Int)) => q = topL G j) (by simp [topL]) ?_ ?_)
    · rintro j q hj rfl
      obtain ⟨a, haj⟩ := get_len hj
      have hal := (hGg a (List.mem_of_getElem? haj)).1
      rw [idx_nat, haj, Option.bind_some]
      refine Ok.bind (Ok.forS (fun i (c : Bool) => c = decide (∃ m, m < i ∧ m ≠ j ∧ Ins a (G.getD m []))) (by simp) ?_ ?_)
      · rintro i c hi rfl
        obtain ⟨b, hbi⟩ := get_len hi
        have hb := hGg b (List.mem_of_getElem? hbi)
        rw [idx_nat, hbi, Option.bind_some]
        have hstep : (∃ m, m < i + 1 ∧ m ≠ j ∧ Ins a (G.getD m [])) ↔ (∃ m, m < i ∧ m ≠ j ∧ Ins a (G.getD m [])) ∨ (i ≠ j ∧ Ins a b) := by
          constructor
          · rintro ⟨m, q1, q2, q3⟩
            by_cases e : m = i
            · subst e
              rw [getD_get hbi] at q3
              exact .inr ⟨q2, q3⟩
            · exact .inl ⟨m, by omega, q2, q3⟩
          · rintro (⟨m, q1, q2, q3⟩ | ⟨q2, q3⟩)
            · exact ⟨m, by omega, q2, q3⟩
            · exact ⟨i, by omega, q2, by rw [getD_get hbi]; exact q3⟩
        by_cases hc : ∃ m, m < i ∧ m ≠ j ∧ Ins a (G.getD m [])
        · rw [if_pos (decide_eq_true hc), Option.bind_some]
          exact Ok.ret (decide_eq_true (hstep.2 (.inl hc))).symm
        · rw [if_neg (by simpa using hc)]
          by_cases e : j = i
          · rw [if_neg (by simp [e])]
            exact Ok.ret (decide_eq_false (fun q => (hstep.1 q).elim hc fun z => z.1 e.symm)).symm
          · rw [if_pos (by simp; omega), inside_ok hb.2.2.1.pw (by omega), Option.bind_some, Option.bind_some]
            refine Ok.ret ?_
            rw [decide_eq_decide, hstep]
            exact ⟨fun q => .inr ⟨fun z => e z.symm, q⟩, fun q => q.elim (fun z => absurd z hc) fun z => z.2⟩
      · rintro c rfl
        have htop : (∃ m, m < G.length ∧ m ≠ j ∧ Ins a (G.getD m [])) ↔ ¬ Top G j := by
          unfold Top
          rw [getD_get haj]
          constructor
          · rintro ⟨m, q1, q2, q3⟩ h
            exact h m q1 q2 q3
          · intro h
            exact Classical.byContradiction fun q => h fun k k1 k2 k3 => q ⟨k, k1, k2, k3⟩
        have htl : (topL G j).length ≤ j := by
          unfold topL
          rw [List.length_map]
          have := List.length_filter_le (fun i => decide (Top G i)) (List.range j)
          rw [List.length_range] at this
          exact this
        have hsucc : topL G (j + 1) = topL G j ++ if decide (Top G j) = true then [a] else [] := by
          unfold topL
          rw [List.range_succ, List.filter_append, List.map_append]
          by_cases h : Top G j
          · rw [if_pos (decide_eq_true h)]; simp [h, haj]
          · rw [if_neg (by simpa using h)]; simp [h]
        by_cases h : Top G j
        · rw [dF (fun q => htop.1 q h), if_pos (by rfl), ints_clone (by omega), Option.bind_some, app_ok (by simp only [List.length_singleton]; omega)]
          refine Ok.ret ?_
          rw [hsucc, if_pos (decide_eq_true h)]
        · rw [dT (htop.2 h), if_neg (by simp)]
          refine Ok.ret ?_
          rw [hsucc, if_neg (by simpa using h), List.append_nil]
    · rintro q rfl
      exact Ok.ret rfl
end Go.Pw
/-
  The law: along any sequence of applicable operators at most one atom of each group is true, in plain Lean.
-/
set_option maxHeartbeats 4000000
namespace Go.Pw
end Go.Pw
/-
  The law: each group is a balanced candidate, in order, and every balanced candidate is contained in a group, in plain Lean.
-/
set_option maxHeartbeats 4000000
namespace Go.Pw
theorem asc_sub : ∀ (b a : List Int), a.Pairwise (· < ·) → b.Pairwise (· < ·) → (∀ x ∈ a, x ∈ b) → a.length ≤ b.length ∧ (b.length ≤ a.length → a = b)
  | [], [], _, _, _ => ⟨Nat.le_refl _, fun _ => rfl⟩
  | [], x :: a, _, _, h => by have := h x (List.mem_cons_self ..); cases this
  | y :: b, [], _, _, _ => ⟨by simp, fun h => by simp at h⟩
  | y :: b, x :: a, ha, hb, h => by
    obtain ⟨a1, a2⟩ := List.pairwise_cons.1 ha
    obtain ⟨b1, b2⟩ := List.pairwise_cons.1 hb
    by_cases e : x = y
    · subst e
      have ih := asc_sub b a a2 b2 fun z hz => by
        rcases List.mem_cons.1 (h z (List.mem_cons_of_mem _ hz)) with q | q
        · have := a1 z hz; omega
        · exact q
      refine ⟨by simp only [List.length_cons]; omega, fun q => ?_⟩
      simp only [List.length_cons] at q
      rw [ih.2 (by omega)]
    · have hxb : x ∈ b := (List.mem_cons.1 (h x (List.mem_cons_self ..))).elim (fun q => absurd q e) id
      have hyx := b1 x hxb
      have ih := asc_sub b (x :: a) ha b2 fun z hz => by
        rcases List.mem_cons.1 (h z hz) with q | q
        · rcases List.mem_cons.1 hz with q2 | q2
          · exact absurd (q2.symm.trans q) e
          · have := a1 z q2; omega
        · exact q
      have := ih.1
      refine ⟨by simp only [List.length_cons] at *; omega, fun q => ?_⟩
      simp only [List.length_cons] at *
      omega
def SubL (a b : List Int) : Prop := ∀ x ∈ a, x ∈ b
theorem topL_succ {G : List (List Int)} {j : Nat} {a : List Int} (h : G[j]? = some a) : topL G (j + 1) = topL G j ++ @ite _ (Top G j) (Classical.propDecidable _) [a] [] := by
  classical
  unfold topL
  rw [List.range_succ, List.filter_append, List.map_append]
  by_cases q : Top G j
  · rw [if_pos q]; simp [q, h]
  · rw [if_neg q]; simp [q]
theorem topL_pre (G : List (List Int)) (n : Nat) : ∀ d, n + d ≤ G.length → ∃ r, topL G (n + d) = topL G n ++ r
  | 0, _ => ⟨[], by simp⟩
  | d + 1, h => by
    obtain ⟨r, hr⟩ := topL_pre G n d (by omega)
    obtain ⟨a, ha⟩ := get_len (xs := G) (i := n + d) (by omega)
    exact ⟨_, by rw [show n + (d + 1) = n + d + 1 by omega, topL_succ ha, hr, List.append_assoc]⟩
theorem topL_of {G : List (List Int)} {n : Nat} {c : List Int} (h : c ∈ topL G n) : ∃ k, k < n ∧ Top G k ∧ c = G.getD k [] := by
  classical
  unfold topL at h
  obtain ⟨i, hi, rfl⟩ := List.mem_map.1 h
  obtain ⟨h1, h2⟩ := List.mem_filter.1 hi
  exact ⟨i, List.mem_range.1 h1, of_decide_eq_true h2, rfl⟩
theorem topL_in {G : List (List Int)} {n k : Nat} (hk : k < n) (ht : Top G k) : G.getD k [] ∈ topL G n := by
  classical
  unfold topL
  exact List.mem_map.2 ⟨k, List.mem_filter.2 ⟨List.mem_range.2 hk, decide_eq_true ht⟩, rfl⟩
section
variable {G : List (List Int)}
/-- Every list of the row is contained in one that no other contains. -/
theorem top_ex (hp : ∀ c ∈ G, c.Pairwise (· < ·)) (hn : G.Nodup) (hl : ∀ c ∈ G, c.length ≤ 1000) : ∀ (d m : Nat) (c : List Int), G[m]? = some c → 1000 ≤ c.length + d → ∃ k, k < G.length ∧ Top G k ∧ SubL c (G.getD k []) := by
  intro d
  induction d with
  | zero =>
    intro m c hc hd
    refine ⟨m, (List.getElem?_eq_some_iff.1 hc).1, fun k hk hkm hI => ?_, by rw [getD_get hc]; exact fun x h => h⟩
    obtain ⟨b, hb⟩ := get_len hk
    rw [getD_get hc, getD_get hb] at hI
    have h1 := hl b (List.mem_of_getElem? hb)
    have e := (asc_sub b c (hp c (List.mem_of_getElem? hc)) (hp b (List.mem_of_getElem? hb)) hI.2).2 (by omega)
    subst e
    obtain ⟨q1, q2⟩ := List.getElem?_eq_some_iff.1 hc
    obtain ⟨q3, q4⟩ := List.getElem?_eq_some_iff.1 hb
    exact hkm ((List.getElem_inj hn).1 (q4.trans q2.symm))
  | succ d ih =>
    intro m c hc hd
    by_cases ht : Top G m
    · exact ⟨m, (List.getElem?_eq_some_iff.1 hc).1, ht, by rw [getD_get hc]; exact fun x h => h⟩
    · obtain ⟨k, hk, hkm, hI⟩ : ∃ k, k < G.length ∧ k ≠ m ∧ Ins (G.getD m []) (G.getD k []) := by
        refine Classical.byContradiction fun q => ht fun k h1 h2 h3 => q ⟨k, h1, h2, h3⟩
      obtain ⟨b, hb⟩ := get_len hk
      rw [getD_get hc, getD_get hb] at hI
      have hne : ¬ b.length ≤ c.length := fun q => by
        have e := (asc_sub b c (hp c (List.mem_of_getElem? hc)) (hp b (List.mem_of_getElem? hb)) hI.2).2 q
        subst e
        obtain ⟨q1, q2⟩ := List.getElem?_eq_some_iff.1 hc
        obtain ⟨q3, q4⟩ := List.getElem?_eq_some_iff.1 hb
        exact hkm ((List.getElem_inj hn).1 (q4.trans q2.symm))
      obtain ⟨k', h1, h2, h3⟩ := ih k b hb (by omega)
      exact ⟨k', h1, h2, fun x hx => h3 x (hI.2 x hx)⟩
end
def CovR (L : List (List Int)) (c : List Int) (r : Int × Bool) : Prop :=
  (∃ (i : Nat) (b : List Int), r = ((i : Int), decide ((b.length : Int) = (c.length : Int))) ∧ L[i]? = some b ∧ SubL c b ∧ ∀ (k : Nat) a, k < i → L[k]? = some a → ¬ SubL c a) ∨ (r = (-1, false) ∧ ∀ a ∈ L, ¬ SubL c a)
theorem covered_ok {L : List (List Int)} {c : List Int} (hc : ∀ x ∈ c, i64ok x) (hL : ∀ b ∈ L, b.length ≤ 1000 ∧ ∀ x ∈ b, i64ok x) : Ok (law20_covered_p L c) (CovR L c) := by
  classical
  unfold law20_covered_p
  refine Ok.ctl (fun j (_ : Unit) => ∀ (k : Nat) a, k < j → L[k]? = some a → ¬ SubL c a) (fun r => CovR L c r) (fun k a h => absurd h (Nat.not_lt_zero k)) ?_ (fun r h => Ok.ret h) ?_
  · rintro j _ hj hI
    obtain ⟨b, hb⟩ := get_len hj
    obtain ⟨hb1, hb2⟩ := hL b (List.mem_of_getElem? hb)
    obtain ⟨m, e1, k1, _, _⟩ := put_loop b hb2 b [] [] [] rfl (fun a => by simp [bget]) (by simp; omega)
    simp only [List.nil_append, List.length_nil] at e1 k1
    have e2 := all_loop k1 c hc c [] true rfl
    simp only [List.length_nil, Bool.true_and] at e2
    rw [idx_nat, hb, Option.bind_some, e1, Option.bind_some, e2, Option.bind_some]
    by_cases h : ∀ x ∈ c, x ∈ b
    · rw [if_pos (by simpa using h)]
      exact Ok.ret (.inl ⟨j, b, rfl, hb, h, hI⟩)
    · rw [if_neg (by simpa using h)]
      refine Ok.ret (fun k a hk ha => ?_)
      by_cases e : k = j
      · subst e; rw [hb] at ha; cases ha; exact h
      · exact hI k a (by omega) ha
  · rintro _ hI
    refine Ok.ret (.inr ⟨rfl, fun a ha => ?_⟩)
    obtain ⟨k, hk, rfl⟩ := List.getElem_of_mem ha
    exact hI k _ hk (List.getElem?_eq_getElem hk)
theorem cands_nodup {C : List (List Int)} (h : C.Pairwise fun x y => cmpL x y < 0) : C.Nodup :=
  h.imp fun {a b} hab e => by rw [e, cmpL_self] at hab; omega
open Classical in
theorem invariantMaximal_ok {fu : Nat} {g : Ground} (hl : LenG g) (hs : SizeOf.sizeOf g ≤ fu) (hn : NamesG g) : law20_InvariantMaximal_p fu g = some true := by
  unfold law20_InvariantMaximal_p
  rw [awake_ok, few_ok hl hs]
  simp only [Option.bind_some, Bool.not_true, Bool.false_eq_true, if_false]
  by_cases hf : FewG g
  rotate_left
  · rw [dF hf]; rfl
  have hv : ValidG g := hf.2.2.2.2.2.2
  rw [dT hf]
  simp only [Bool.not_true, Bool.false_eq_true, if_false, Option.bind_some]
  obtain ⟨C, hC, hC1, hC3, hC2⟩ := cands_all hf.1 hf.2.2.2.2.1 hn
  rw [Groups_all hv hl hs hC hC1 hC2]
  simp only [Option.bind_some, un2, Option.isSome_none, Bool.false_eq_true, if_false]
  unfold invariant_Candidates_p
  rw [valid_ok hl hs, hC]
  simp only [hv, decide_true, Bool.not_true, Bool.false_eq_true, if_false, Option.bind_some]
  generalize hG : goodL g C = G
  have hGg : ∀ c ∈ G, c.length ≤ 1000 ∧ GoodC g c := fun c hc => by
    rw [← hG] at hc
    have := goodL_mem.1 hc
    exact ⟨hC1 c this.1, this.2⟩
  have hGp : ∀ c ∈ G, c.Pairwise (· < ·) := fun c hc => (hGg c hc).2.2.1.pw
  have hGn : G.Nodup := by rw [← hG]; exact (cands_nodup hC3).sublist List.filter_sublist
  have hGl : G.length ≤ 200000 := by
    have := List.length_filter_le (fun c => decide (GoodC g c)) C
    rw [← hG]; unfold goodL; omega
  generalize hL : topL G G.length = L
  have hLg : ∀ b ∈ L, b ∈ G := fun b hb => by rw [← hL] at hb; exact topL_mem hb
  have hLl : L.length ≤ 200000 := by
    rw [← hL]
    unfold topL
    rw [List.length_map]
    have := List.length_filter_le (fun i => decide (Top G i)) (List.range G.length)
    rw [List.length_range] at this
    omega
  have hok : ∀ b ∈ G, ∀ x ∈ b, i64ok x := fun b hb => (hGg b hb).2.2.1.ok hv.a
  apply Ok.eq
  refine Ok.ctl (fun j (seen : Int) => seen = ((topL G (goodL g (C.take j)).length).length : Int)) (fun _ => False) (by simp [goodL, topL]) ?_ (fun _ h => h.elim) ?_
  · rintro j seen hj rfl
    obtain ⟨c, hc⟩ := get_len hj
    have hcl := hC1 c (List.mem_of_getElem? hc)
    have hz : (if decide ((c.length : Int) < 2) = true then some true else (invariant_Balanced_p fu g c).bind fun y106 => some (!y106)) = some (!decide (GoodC g c)) := by
      by_cases h : (c.length : Int) < 2
      · rw [if_pos (decide_eq_true h), dF (fun q : GoodC g c => by have := q.1; omega)]; rfl
      · rw [if_neg (by simpa using h)]
        unfold invariant_Balanced_p
        rw [valid_ok hl hs, dT hv, Option.bind_some, if_pos rfl, balanced_ok hv hcl]
        simp only [Option.bind_some]
        congr 2
        rw [decide_eq_decide]
        exact ⟨fun q => ⟨by omega, q⟩, fun q => q.2⟩
    have hsucc : goodL g (C.take (j + 1)) = goodL g (C.take j) ++ if GoodC g c then [c] else [] := by
      unfold goodL
      rw [take_snoc hc, List.filter_append]
      by_cases h : GoodC g c
      · simp [h]
      · simp [h]
    rw [idx_nat, hc, Option.bind_some, hz, Option.bind_some]
    by_cases hg : GoodC g c
    rotate_left
    · rw [dF hg, if_pos (by rfl)]
      refine Ok.ret ?_
      rw [hsucc, if_neg hg, List.append_nil]
      exact rfl
    rw [dT hg, if_neg (by simp)]
    rw [if_pos hg] at hsucc
    generalize hm : (goodL g (C.take j)).length = m
    have hm1 : (goodL g (C.take (j + 1))).length = m + 1 := by rw [hsucc, List.length_append, hm]; rfl
    have hGm : G[m]? = some c := by
      have : G = goodL g (C.take (j + 1)) ++ goodL g (C.drop (j + 1)) := by
        rw [← hG]; unfold goodL
        rw [← List.filter_append, List.take_append_drop]
      rw [this, hsucc, List.append_assoc, List.getElem?_append_right (by omega), hm, Nat.sub_self]
      rfl
    have hmG := List.mem_of_getElem? hGm
    have hml := (List.getElem?_eq_some_iff.1 hGm).1
    rw [hm1]
    have hst := topL_succ hGm
    obtain ⟨r1, hr1⟩ := topL_pre G (m + 1) (G.length - (m + 1)) (by omega)
    rw [show m + 1 + (G.length - (m + 1)) = G.length by omega, hL, hst] at hr1
    have htl : (topL G m).length ≤ m := by
      unfold topL
      rw [List.length_map]
      have := List.length_filter_le (fun i => decide (Top G i)) (List.range m)
      rw [List.length_range] at this
      exact this
    refine Ok.bind (Ok.mono (covered_ok (hok c hmG) (fun b hb => ⟨(hGg b (hLg b hb)).1, hok b (hLg b hb)⟩)) ?_)
    rintro r (⟨i, b, rfl, hb, hsub, hfirst⟩ | ⟨rfl, hno⟩)
    · simp only [un2]
      rw [if_neg (by simp)]
      have hbL := List.mem_of_getElem? hb
      by_cases ht : Top G m
      · rw [if_pos ht] at hr1 hst
        have hLt : L[(topL G m).length]? = some c := by
          rw [hr1, List.append_assoc, List.getElem?_append_right (Nat.le_refl _), Nat.sub_self]; rfl
        have hi : i = (topL G m).length := by
          by_cases q1 : i < (topL G m).length
          · exfalso
            rw [hr1, List.append_assoc, List.getElem?_append_left q1] at hb
            obtain ⟨k, hk, hkt, rfl⟩ := topL_of (List.mem_of_getElem? hb)
            obtain ⟨d, hd⟩ := get_len (xs := G) (i := k) (by omega)
            rw [getD_get hd] at hsub
            refine ht k (by omega) (by omega) ?_
            rw [getD_get hGm, getD_get hd]
            exact ⟨(asc_sub d c (hGp c hmG) (hGp d (List.mem_of_getElem? hd)) hsub).1, hsub⟩
          · by_cases q2 : (topL G m).length < i
            · exact absurd (fun x hx => hx) (hfirst _ c q2 hLt)
            · omega
        subst hi
        rw [hLt] at hb
        cases hb
        rw [if_pos (by simp), if_neg (by simp), wrap_id (by omega) (by omega)]
        refine Ok.ret ?_
        show ((topL G m).length : Int) + 1 = ((topL G (m + 1)).length : Int)
        rw [hst, List.length_append, List.length_singleton]
        omega
      · rw [if_neg ht, List.append_nil] at hst
        have hne : ¬ (b.length : Int) = (c.length : Int) := fun q => by
          rw [← hL] at hbL
          obtain ⟨k, hk, hkt, rfl⟩ := topL_of hbL
          obtain ⟨d, hd⟩ := get_len hk
          rw [getD_get hd] at hsub q
          have e := (asc_sub d c (hGp c hmG) (hGp d (List.mem_of_getElem? hd)) hsub).2 (by omega)
          have hkm : k ≠ m := fun e => ht (e ▸ hkt)
          refine hkt m hml hkm.symm ?_
          rw [getD_get hd, getD_get hGm, e]
          exact ⟨Nat.le_refl _, fun x hx => hx⟩
        rw [if_neg (by simpa using hne)]
        refine Ok.ret ?_
        rw [hst]
        exact rfl
    · obtain ⟨k, hk, hkt, hks⟩ := top_ex hGp hGn (fun c hc => (hGg c hc).1) 1000 m c hGm (by omega)
      refine absurd hks (hno _ ?_)
      rw [← hL]
      exact topL_in hk hkt
  · rintro seen rfl
    rw [List.take_length, hG, hL]
    exact Ok.ret (by simp)
end Go.Pw
/-
  What is known of a task that is read in.
-/
namespace Go.Pw
/-! ### what is known of data read in -/
abbrev WfC (c : Cond) : Prop := (c.Pos.length ≤ maxLen ∧ ∀ y ∈ c.Pos, (Lit.int .i64 y).wf = true) ∧ (c.Neg.length ≤ maxLen ∧ ∀ y ∈ c.Neg, (Lit.int .i64 y).wf = true) ∧ (c.Tests.length ≤ maxLen ∧ ∀ t ∈ c.Tests, (t.Op.size ≤ maxLen) ∧ WFE t.A ∧ WFE t.B)
theorem lenC_of {c : Cond} (h : WfC c) : LenC c := ⟨h.1.1, h.2.1.1, h.2.2.1, fun t ht => (h.2.2.2 t ht).2⟩
theorem lenG_of {g : Ground} {A F I : Prop} {P : GOp → Prop} {Q : GChange → Prop} {R : GAssign → Prop} (h : (g.Atoms.length ≤ maxLen ∧ A) ∧ (g.Fluents.length ≤ maxLen ∧ F) ∧ (g.Init.length ≤ maxLen ∧ I) ∧ (g.Goal.length ≤ maxLen ∧ ∀ c ∈ g.Goal, WfC c) ∧
    (g.Ops.length ≤ maxLen ∧ ∀ o ∈ g.Ops, (o.Name.size ≤ maxLen) ∧ P o ∧ WfC o.Pre ∧ (o.Changes.length ≤ maxLen ∧ ∀ c ∈ o.Changes, WfC c.When ∧ Q c) ∧ (o.Assigns.length ≤ maxLen ∧ ∀ a ∈ o.Assigns, R a ∧ WFE a.Value))) : LenG g :=
  ⟨h.1.1, h.2.1.1, h.2.2.1.1, h.2.2.2.1.1, h.2.2.2.2.1, fun c hc => lenC_of (h.2.2.2.1.2 c hc), fun o ho =>
    let k := h.2.2.2.2.2 o ho
    ⟨k.1, lenC_of k.2.2.1, k.2.2.2.1.1, fun c hc => lenC_of (k.2.2.2.1.2 c hc).1, k.2.2.2.2.1, fun a ha => (k.2.2.2.2.2 a ha).2⟩⟩
end Go.Pw
