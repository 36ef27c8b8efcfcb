/-
  The statement on limits, in plain Lean: it holds of every two numbers.
-/
import Derived.Test.YtdhfofhginfdnaaLiG
import Derived.ProofKit
set_option maxHeartbeats 4000000
set_option linter.unusedSimpArgs false
set_option linter.unusedVariables false
namespace Go.Pw
abbrev noS : System := ⟨0, 0, [], [], []⟩
theorem wf16 {x : Int} (h : (Lit.int .u16 x).wf = true) : 0 ≤ x ∧ x ≤ 65535 := by
  simp only [Lit.wf, decide_eq_true_eq] at h
  have h1 : IntKind.u16.min = 0 := by decide
  have h2 : IntKind.u16.max = 65535 := by decide
  simp [h1, h2] at h
  omega
theorem num_some (k : Int) : base_Num_t (some k) = k := by
  have := base_Num_tot (some k)
  unfold base_Num_p at this
  simpa using this.symm
theorem is_some (k : Int) : base_Is_t (some k) k = true := by
  have := base_Is_tot (some k) k
  unfold base_Is_p at this
  have := Option.some.inj this
  rw [← this]
  simp [num_some]
theorem prod_large {a b : System} (ha : VSys a) (hb : VSys b) (hc : a.Costs = b.Costs) (hs : 4096 < a.States * b.States) : transys_Product_p a b = some (some 5, noS) := by
  unfold transys_Product_p
  have s1 := ha.s1; have s2 := ha.s2; have s3 := hb.s1; have s4 := hb.s2
  have m1 := mul_bd (x := a.States) (n := b.States) (by omega) (by omega) (by omega) (by omega)
  have w1 : IntKind.i64.wrap (a.States * b.States) = a.States * b.States := wrap_id (by omega) (by omega)
  simp [tV, Equal_p, valB_iff.2 ha, valB_iff.2 hb, hc, w1, hs]
theorem goalsP_len (a b : System) : (goalsP a b).length = a.Goals.length * b.Goals.length := by
  unfold goalsP
  generalize a.Goals = l
  induction l with
  | nil => simp
  | cons x l ih => simp only [List.flatMap_cons, List.length_append, List.length_map, ih, List.length_cons, Nat.add_mul]; omega
def plainS (i : Nat) : System := ⟨(i : Int), 0, [], [], List.replicate i false⟩
theorem plainS_v {i : Nat} (h1 : 1 ≤ i) (h2 : i ≤ 90) : VSys (plainS i) := by
  refine ⟨?_, ?_, ?_, ?_, ?_, ?_, ?_, ?_, ?_, ?_⟩ <;> simp [plainS] <;> omega
theorem law_ok (n m : Int) (hn : 0 ≤ n ∧ n ≤ 65535) (hm : 0 ≤ m ∧ m ≤ 65535) : law44_TransysLimits_p n m = some true := by
  unfold law44_TransysLimits_p
  have key : ∀ x : Int, 0 ≤ x ∧ x ≤ 65535 → ∃ i : Nat, IntKind.i64.wrap (1 + ((IntKind.i64.wrap x).tmod 90)) = (i : Int) ∧ 1 ≤ i ∧ i ≤ 90 := by
    intro x hx
    rw [wrap_id (n := x) (by omega) (by omega)]
    have h1 : x.tmod 90 = x % 90 := Int.tmod_eq_emod_of_nonneg hx.1
    rw [h1, wrap_id (by omega) (by omega)]
    exact ⟨(1 + x % 90).toNat, by omega, by omega, by omega⟩
  obtain ⟨i, hi, i1, i2⟩ := key n hn
  obtain ⟨j, hj, j1, j2⟩ := key m hm
  have vi := plainS_v i1 i2
  have vj := plainS_v j1 j2
  rw [hi, hj]
  simp only [awake_ok, Option.bind_some, Bool.not_true, Bool.false_eq_true, if_false]
  rw [mk_ok (by omega) (by omega), mk_ok (by omega) (by omega)]
  simp only [Option.bind_some]
  have hij : (i : Int) * (j : Int) = ((i * j : Nat) : Int) := by simp
  have hle : i * j ≤ 90 * 90 := Nat.mul_le_mul i2 j2
  rw [hij, wrap_id (by omega) (by omega)]
  by_cases hbig : 4096 < ((i * j : Nat) : Int)
  · have hp := prod_large vi vj rfl (by show 4096 < (i : Int) * (j : Int); omega)
    simp only [plainS] at hp
    rw [hp]
    simp only [Option.bind_some, un2]
    simp [is_some]
    omega
  · obtain ⟨⟨e, x⟩, hp, h1, h2⟩ := product_ok vi vj rfl (by show (i : Int) * (j : Int) ≤ 4096; omega) (by simp [plainS])
    simp only [plainS] at hp
    simp only at h1 h2
    subst h1
    rw [hp]
    have e1 := h2.s
    have e2 := h2.g
    have e3 := goalsP_len (plainS i) (plainS j)
    rw [← e2] at e3
    have e4 : x.Edges = [] := by
      apply List.eq_nil_iff_forall_not_mem.2
      intro e he
      obtain ⟨d, hd, _⟩ := (h2.e e).1 he
      simp [plainS] at hd
    simp only [plainS, List.length_replicate] at e1 e3
    rw [hij] at e1
    simp only [Option.bind_some, un2, e1, e3, e4]
    simp only [hbig, decide_false, Bool.false_eq_true, if_false]
    simp
end Go.Pw
