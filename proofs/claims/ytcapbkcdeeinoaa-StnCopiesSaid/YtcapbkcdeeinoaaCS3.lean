/-
  Plain Lean: P54.1, StnPlays.
-/
import Derived.Test.YtcapbkcdeeinoaaCS2
import Derived.KernelRfl
namespace Go.Pw

theorem awake_ok : law54_awake_p = some true := by kernel_rfl

section
variable {n : Nat} {d : List (List Int)} {f : MM} {E : List Bound}
theorem Distance_in (hd : Mx n d f) {a b : Nat} (ha : a < n) (hb : b < n) : stn_Network_Distance_p ⟨d⟩ (a : Int) (b : Int) = some (f a b, none) := by
  unfold stn_Network_Distance_p
  rw [point_iff, point_iff, if_neg (by simp [hd.1]; omega)]
  obtain ⟨row, h1, h2, h3⟩ := hd.row ha
  simp only [h1, h3 b hb, Option.bind_some]
theorem Distance_out (hd : Mx n d f) {a b : Int} (h : ¬ (0 ≤ a ∧ a < n ∧ 0 ≤ b ∧ b < n)) : stn_Network_Distance_p ⟨d⟩ a b = some (0, some 1) := by
  unfold stn_Network_Distance_p
  rw [point_iff, point_iff, if_pos (by simp [hd.1]; omega)]
theorem Earliest_in (hd : Mx n d f) (hn : 0 < n) {p : Nat} (hp : p < n) (hf : f p 0 < 1125899906842624 → -9007199254740992 ≤ f p 0) :
    stn_Network_Earliest_p ⟨d⟩ (p : Int) = some (if f p 0 < 1125899906842624 then (-(f p 0), none) else (0, some 3)) := by
  unfold stn_Network_Earliest_p
  have := Distance_in hd hp hn
  rw [Int.natCast_zero] at this
  simp only [this, Option.bind_some, un2, Option.isSome_none, Bool.false_eq_true, if_false]
  by_cases h : f p 0 < 1125899906842624
  · rw [if_neg (by simpa using h), if_pos h, wrap_i64 (by omega) (by have := hf h; omega), Int.zero_sub]
  · rw [if_pos (by simpa using h), if_neg h]
theorem Latest_in (hd : Mx n d f) (hn : 0 < n) {p : Nat} (hp : p < n) :
    stn_Network_Latest_p ⟨d⟩ (p : Int) = some (if f 0 p < 1125899906842624 then (f 0 p, none) else (0, some 3)) := by
  unfold stn_Network_Latest_p
  have := Distance_in hd hn hp
  rw [Int.natCast_zero] at this
  simp only [this, Option.bind_some, un2, Option.isSome_none, Bool.false_eq_true, if_false]
  by_cases h : f 0 p < 1125899906842624
  · rw [if_neg (by simpa using h), if_pos h]
  · rw [if_pos (by simpa using h), if_neg h]
theorem Earliest_out (hd : Mx n d f) {p : Int} (h : ¬ (0 ≤ p ∧ p < n)) : stn_Network_Earliest_p ⟨d⟩ p = some (0, some 1) := by
  unfold stn_Network_Earliest_p
  rw [Distance_out hd (by omega)]
  rfl
theorem Latest_out (hd : Mx n d f) {p : Int} (h : ¬ (0 ≤ p ∧ p < n)) : stn_Network_Latest_p ⟨d⟩ p = some (0, some 1) := by
  unfold stn_Network_Latest_p
  rw [Distance_out hd (by omega)]
  rfl

/-- What the times are. -/
def TimesSay (n : Nat) (f : MM) (r : List Int × Option Int) : Prop :=
  ((∃ p, p < n ∧ ¬ f p 0 < 1125899906842624) ∧ r = ([], some 3)) ∨ ((∀ p, p < n → f p 0 < 1125899906842624) ∧ r.2 = none ∧ r.1.length = n ∧ ∀ p, p < n → r.1[p]? = some (-(f p 0)))
theorem Times_ok (hd : Mx n d f) (hn : n ≤ 128) (hn0 : 0 < n) (hf : ∀ p, p < n → f p 0 < 1125899906842624 → -9007199254740992 ≤ f p 0) : Ok (stn_Network_Times_p ⟨d⟩) (TimesSay n f) := by
  unfold stn_Network_Times_p
  show Ok (ctl (forC _ d.length 0 []) _ _) _
  rw [hd.1]
  refine Ok.ctl (fun i out => out.length = i ∧ ∀ p, p < i → f p 0 < 1125899906842624 ∧ out[p]? = some (-(f p 0))) (fun r => (∃ p, p < n ∧ ¬ f p 0 < 1125899906842624) ∧ r = ([], some 3)) ⟨rfl, fun p hp => by omega⟩ ?_ (fun r h => Ok.ret (.inl h)) ?_
  · rintro i out hi ⟨hl, hc⟩
    refine Ok.step (Earliest_in hd hn0 hi (hf i hi)) ?_
    by_cases h : f i 0 < 1125899906842624
    · simp only [h, if_true, un2, Option.isSome_none, Bool.false_eq_true, if_false]
      refine Ok.step (a := out ++ [-(f i 0)]) (by unfold app; rw [if_pos]; simp; omega) (Ok.ret ⟨by simp [hl], fun p hp => ?_⟩)
      by_cases e : p < i
      · rw [List.getElem?_append_left (by omega)]; exact hc p e
      · have : p = i := by omega
        subst this
        refine ⟨h, ?_⟩
        rw [List.getElem?_append_right (by omega), hl]
        simp
    · simp only [h, if_false, un2, Option.isSome_some, if_true]
      exact Ok.ret ⟨⟨i, hi, h⟩, rfl⟩
  · rintro out ⟨hl, hc⟩
    exact Ok.ret (.inr ⟨fun p hp => (hc p hp).1, rfl, hl, fun p hp => (hc p hp).2⟩)

theorem Ints_o_same {a b : List Int} (h : a = b) : base_Ints_o_p a b = some true := by
  subst h
  have : Ok (base_Ints_o_p a a) (fun r => r = true) := by
    unfold base_Ints_o_p
    rw [if_neg (by simp)]
    refine Ok.ctl (fun _ _ => True) (fun _ => False) trivial ?_ (fun _ h => h.elim) (fun _ _ => Ok.ret rfl)
    intro i _ hi _
    obtain ⟨x, hx⟩ : ∃ x, a[i]? = some x := ⟨a[i], by simp [hi]⟩
    refine Ok.step (by rw [idx_nat]; exact hx) (Ok.step (by rw [idx_nat]; exact hx) ?_)
    rw [if_neg (by simp)]
    exact Ok.ret trivial
  obtain ⟨r, h1, h2⟩ := this
  rw [h1, h2]

theorem is_ok (hn : n ≤ 32) (hn0 : 0 < n) (h : Net n E d) : Ok (law54_is_p ⟨d⟩ (n : Int) E) (fun r => r = true) := by
  obtain ⟨hE, f, hd, hcl, hdi⟩ := h
  have hmust : decide ((n : Int) ≤ 9223372036854775807) = true := decide_eq_true (by omega)
  have hfin : ∀ p, p < n → f p 0 < 1125899906842624 → -9007199254740992 ≤ f p 0 := fun p hp q => by have := hcl.fine hdi hn hp hn0 q; omega
  unfold law54_is_p
  refine Ok.bind ((Distances_ok n hn hn0 E hE).mono ?_)
  rintro ⟨d', ok⟩ (⟨h1, f', hd', hcl', hdi'⟩ | ⟨h1, i, w, L, hi, hw, hlt⟩)
  · cases h1
    have e : ∀ i j, i < n → j < n → f' i j = f i j := fun i j hi hj => hcl'.uniq hcl hi hj
    simp only [un2, Bool.not_true, Bool.false_eq_true, if_false]
    refine Ok.must hmust ?_
    rw [Int.toNat_natCast]
    refine Ok.ctl (fun i s => s.1.length = i ∧ (s.2 = true → ∀ p, p < i → f p 0 < 1125899906842624 ∧ s.1[p]? = some (-(f p 0))) ∧ (s.2 = false → ∃ p, p < n ∧ ¬ f p 0 < 1125899906842624)) (fun _ => False) ⟨rfl, fun _ p hp => by omega, fun h => by cases h⟩ ?_ (fun _ h => h.elim) ?_
    · rintro i ⟨first, all⟩ hi ⟨hl, h1, h2⟩
      replace hl : first.length = i := hl
      refine Ok.must hmust (Ok.ctl (fun _ _ => True) (fun _ => False) trivial ?_ (fun _ h => h.elim) ?_)
      · intro j _ hj _
        refine Ok.step (Distance_in hd hi hj) ?_
        obtain ⟨row, r1, r2, r3⟩ := hd'.row hi
        simp only [un2, Option.isSome_none, Bool.false_eq_true, if_false]
        refine Ok.bind (Ok.step r1 (Ok.step (r3 j hj) (Ok.ret ?_)))
        rw [e i j hi hj, if_neg (by simp)]
        exact Ok.ret trivial
      · intro _ _
        obtain ⟨row, r1, r2, r3⟩ := hd'.row hi
        obtain ⟨row0, k1, k2, k3⟩ := hd'.row hn0
        have r30 := r3 0 hn0
        rw [e i 0 hi hn0] at r30
        have k3i := k3 i hi
        rw [e 0 i hn0 hi] at k3i
        have hile := hcl.le i 0 hi hn0
        have hole := hcl.le 0 i hn0 hi
        refine Ok.step (Earliest_in hd hn0 hi (hfin i hi)) ?_
        refine Ok.step r1 (Ok.step (by simpa using r30) ?_)
        by_cases c : f i 0 < 1125899906842624
        · rw [if_pos c, if_neg (by simp; omega)]
          have hfi := hfin i hi c
          rw [wrap_i64 (by omega) (by omega), if_neg (by simp)]
          refine Ok.step (a := first ++ [-(f i 0)]) (by unfold app; rw [if_pos]; simp; omega) (Ok.step (Latest_in hd hn0 hi) (Ok.step (by simpa using k1) (Ok.step k3i ?_)))
          have next : CtlP (S := List Int × Bool) (R := Bool) (fun s => s.1.length = i + 1 ∧ (s.2 = true → ∀ p, p < i + 1 → f p 0 < 1125899906842624 ∧ s.1[p]? = some (-(f p 0))) ∧ (s.2 = false → ∃ p, p < n ∧ ¬ f p 0 < 1125899906842624)) (fun _ => False) (Ctl.next (first ++ [-(f i 0)], all)) := by
            refine ⟨by simp [hl], fun ha p hp => ?_, h2⟩
            by_cases q : p < i
            · rw [List.getElem?_append_left (by omega)]; exact h1 ha p q
            · have : p = i := by omega
              subst this
              refine ⟨c, ?_⟩
              rw [List.getElem?_append_right (by omega), hl]
              simp
          by_cases c2 : f 0 i < 1125899906842624
          · rw [if_pos c2, if_neg (by simp; omega), if_neg (by simp)]
            exact Ok.ret next
          · rw [if_neg c2, if_pos (by simp; omega), if_neg (by simp [Is_ok])]
            exact Ok.ret next
        · rw [if_neg c, if_pos (by simp; omega), if_neg (by simp [Is_ok])]
          refine Ok.step (a := first ++ [0]) (by unfold app; rw [if_pos]; simp; omega) (Ok.step (Latest_in hd hn0 hi) (Ok.step (by simpa using k1) (Ok.step k3i ?_)))
          have next : CtlP (S := List Int × Bool) (R := Bool) (fun s => s.1.length = i + 1 ∧ (s.2 = true → ∀ p, p < i + 1 → f p 0 < 1125899906842624 ∧ s.1[p]? = some (-(f p 0))) ∧ (s.2 = false → ∃ p, p < n ∧ ¬ f p 0 < 1125899906842624)) (fun _ => False) (Ctl.next (first ++ [0], false)) :=
            ⟨by simp [hl], fun ha => (by cases ha), fun _ => ⟨i, hi, c⟩⟩
          by_cases c2 : f 0 i < 1125899906842624
          · rw [if_pos c2, if_neg (by simp; omega), if_neg (by simp)]
            exact Ok.ret next
          · rw [if_neg c2, if_pos (by simp; omega), if_neg (by simp [Is_ok])]
            exact Ok.ret next
    · rintro ⟨first, all⟩ ⟨hl, h1, h2⟩
      replace hl : first.length = n := hl
      refine Ok.bind ((Times_ok hd (by omega) hn0 hfin).mono ?_)
      rintro ⟨ts, te⟩ (⟨⟨p, hp, hpn⟩, ht⟩ | ⟨k1, k2, k3, k4⟩)
      · cases ht
        cases all with
        | true => exact absurd (h1 rfl p hp).1 hpn
        | false => simp only [Bool.not_false, if_true]; exact Ok.ret (by simp [Is_ok])
      · cases all with
        | true =>
          simp only at k2 k3 k4
          subst k2
          simp only [Bool.not_true, Bool.false_eq_true, if_false]
          refine Ok.bind (Ok.step (Ints_o_same ?_) (Ok.ret (Ok.ret rfl)))
          refine List.ext_getElem? fun p => ?_
          by_cases hp : p < n
          · rw [k4 p hp]; exact (h1 rfl p hp).2.symm
          · replace k3 : ts.length = n := k3
            show ts[p]? = first[p]?
            rw [List.getElem?_eq_none (by omega), List.getElem?_eq_none (by omega)]
        | false =>
          obtain ⟨p, hp, hpn⟩ := h2 rfl
          exact absurd (k1 p hp) hpn
  · exact absurd (hcl.noneg hdi hw hi) (by omega)
end

end Go.Pw
