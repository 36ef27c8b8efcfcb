/-
  The statement on products, in plain Lean: it holds of every two systems.
-/
import Derived.Test.YtdhfofhginfdnaaPaT
import Derived.Test.YtdhfofhginfdnaaPaG
set_option maxHeartbeats 4000000
set_option linter.unusedSimpArgs false
set_option linter.unusedVariables false
namespace Go.Pw
abbrev noS : System := ⟨0, 0, [], [], []⟩
theorem valB_f {x : System} (h : ¬ VSys x) : valB x = false := by
  cases e : valB x with
  | false => rfl
  | true => exact absurd (valB_iff.1 e) h
theorem prod_bad {a b : System} (h : ¬ (VSys a ∧ VSys b ∧ a.Costs = b.Costs)) : transys_Product_p a b = some (some 2, noS) := by
  unfold transys_Product_p
  simp only [tV, Equal_p, Option.bind_some]
  by_cases h1 : VSys a
  · simp only [valB_iff.2 h1, Bool.not_true, Bool.false_eq_true, if_false]
    by_cases h2 : VSys b
    · simp only [valB_iff.2 h2, Bool.not_true, Bool.false_eq_true, if_false]
      have h3 : a.Costs ≠ b.Costs := fun e => h ⟨h1, h2, e⟩
      simp [h3]
    · simp [valB_f h2]
  · simp [valB_f h1]
theorem refProd_bad {a b : System} (h : ¬ (VSys a ∧ VSys b ∧ a.Costs = b.Costs)) : ref44_Product_p a b = some (2, noS) := by
  unfold ref44_Product_p
  simp only [rV, Ints_p, Option.bind_some]
  by_cases h1 : VSys a
  · simp only [valB_iff.2 h1, Bool.not_true, Bool.false_eq_true, if_false]
    by_cases h2 : VSys b
    · simp only [valB_iff.2 h2, Bool.not_true, Bool.false_eq_true, if_false]
      have h3 : a.Costs ≠ b.Costs := fun e => h ⟨h1, h2, e⟩
      simp [h3]
    · simp [valB_f h2]
  · simp [valB_f h1]
theorem num_none : base_Num_t none = 0 := by
  have := base_Num_tot none
  unfold base_Num_p at this
  simpa using this.symm
theorem num_some (k : Int) : base_Num_t (some k) = k := by
  have := base_Num_tot (some k)
  unfold base_Num_p at this
  simpa using this.symm
theorem law_ok (a b : System) : law44_TransysProducts_p a b = some true := by
  unfold law44_TransysProducts_p
  obtain ⟨ga, hga, ka⟩ := large_ok a
  obtain ⟨gb, hgb, kb⟩ := large_ok b
  simp only [awake_ok, hga, hgb, Option.bind_some, Bool.not_true, Bool.false_eq_true, if_false]
  cases ga with
  | true => simp
  | false =>
    cases gb with
    | true => simp
    | false =>
      obtain ⟨a1, a2, a3, a4⟩ := ka rfl
      obtain ⟨b1, b2, b3, b4⟩ := kb rfl
      simp only [Bool.false_eq_true, if_false, Option.bind_some]
      by_cases h : VSys a ∧ VSys b ∧ a.Costs = b.Costs
      · obtain ⟨ha, hb, hc⟩ := h
        have s1 := a1 ha
        have s2 := b1 hb
        have p1 := ha.s1
        have p2 := hb.s1
        have hs : a.States * b.States ≤ 4096 := by
          have : a.States * b.States ≤ 40 * 40 := Int.mul_le_mul s1 s2 (by omega) (by omega)
          omega
        have hm : a.Edges.length * b.Edges.length ≤ 65536 := Nat.le_trans (Nat.mul_le_mul a3 b3) (by omega)
        obtain ⟨⟨e, x⟩, hx, h1, h2⟩ := product_ok ha hb hc hs hm
        obtain ⟨⟨c, y⟩, hy, h3, h4⟩ := refProduct_ok ha hb hc hs hm
        simp only at h1 h2 h3 h4
        subst h1 h3
        have := h2.uniq h4
        subst this
        simp [hx, hy, un2, Same_p, num_none]
      · simp [prod_bad h, refProd_bad h, un2, Same_p, num_some]
end Go.Pw
