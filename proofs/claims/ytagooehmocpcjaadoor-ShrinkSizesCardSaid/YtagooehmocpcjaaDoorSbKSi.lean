/-
  The statement on sizes, in plain Lean: it holds of every system.
-/
import Derived.Test.YtagooehmocpcjaaDoorSbBd
set_option maxHeartbeats 4000000
set_option maxRecDepth 100000
set_option linter.unusedSimpArgs false
set_option linter.unusedVariables false
namespace Go.Pw
/-- Classes numbered by first occurrence. -/
def FOcc (c : List Int) : Prop := ∀ (q k b : Nat), c[q]? = some (k : Int) → b < k → ∃ j, j < q ∧ c[j]? = some (b : Int)
theorem ClsL.focc {R : Rel} {n : Nat} {c : List Int} (hE : Eqv n R) (h : ClsL R n c) : FOcc c := by
  intro q k b hq hb
  have hqn : q < n := by have := (List.getElem?_eq_some_iff.1 hq).1; rw [h.1] at this; exact this
  obtain ⟨k', h1, r, h2, h3, h4, h5⟩ := h.2 q hqn
  rw [hq] at h1; simp at h1
  have hbr : b < rnk R r := by omega
  obtain ⟨r', g1, g2, g3⟩ := rnk_onto R r b hbr
  obtain ⟨k'', g4, g5⟩ := h.2 r' (by omega)
  have := cls_uniq hE (by omega) g5 ⟨r', Nat.le_refl _, hE.refl r' (by omega), g2, rfl⟩
  exact ⟨r', by omega, by rw [g4, this, g3]⟩
/-- Goals are the classes' own. -/
def GC (x : System) (c : List Int) : Prop := ∀ (i j k : Nat), c[i]? = some (k : Int) → c[j]? = some (k : Int) → x.Goals[i]?.getD false = x.Goals[j]?.getD false
theorem pick_ex {x : System} {c : List Int} {K : Nat} (hK : 2 ≤ K) (hK2 : K ≤ 4000000) : ∃ i k, PickOr (goalB x c) K i k := by
  obtain ⟨r, _, i, k, _, h⟩ := pair_ok (goals := (List.range K).map (goalB x c)) (g := goalB x c) (by simp) (fun b hb => by simp [hb]) hK hK2
  exact ⟨i, k, h⟩
structure MOK (x : System) (n : Nat) (c : List Int) (K : Nat) : Prop where
  k : KOK c n K
  f : FOcc c
  g : 2 ≤ K → GC x c
theorem gc_flag {x : System} {n K : Nat} {c : List Int} (hk : KOK c n K) (hg : GC x c) (hgl : x.Goals.length = n) {i k : Nat} (hi : c[i]? = some (k : Int)) : x.Goals[i]?.getD false = goalB x c k := by
  rw [Bool.eq_iff_iff, goalB_iff]
  have hin : i < n := by have := (List.getElem?_eq_some_iff.1 hi).1; rw [hk.len] at this; exact this
  constructor
  · intro h
    obtain ⟨y, hy⟩ := get_some (show i < x.Goals.length by omega)
    rw [hy] at h
    simp at h
    exact ⟨i, hi, by rw [hy, h]⟩
  · rintro ⟨j, hj1, hj2⟩
    rw [hg i j k hi hj1, hj2]; rfl
theorem MOK.step {x : System} {n K : Nat} {c : List Int} (h : MOK x n c K) (hgl : x.Goals.length = n) (hK : 2 ≤ K) (hn : n ≤ 4000000) : MOK x n (stepM x c K) (K - 1) := by
  have hle := h.k.le
  obtain ⟨i, k, hp⟩ := pick_ex (x := x) (c := c) hK (by omega)
  obtain ⟨hik, hkK⟩ := hp.lt hK
  have hst : stepM x c K = c.map (joinV i k) := by unfold stepM; rw [pk_eq hp]
  rw [hst]
  have back : ∀ (q b : Nat), (c.map (joinV i k))[q]? = some (b : Int) → ∃ v : Nat, c[q]? = some (v : Int) ∧ joinV i k (v : Int) = (b : Int) := by
    intro q b hq
    have hqn : q < n := by have := (List.getElem?_eq_some_iff.1 hq).1; rw [List.length_map, h.k.len] at this; exact this
    obtain ⟨v, _, hv⟩ := h.k.rng q hqn
    rw [List.getElem?_map, hv] at hq
    exact ⟨v, hv, Option.some.inj hq⟩
  refine ⟨h.k.join hik hkK, ?_, fun h2 => ?_⟩
  · intro q b' b hq hb
    obtain ⟨v, hv, e⟩ := back q b' hq
    have low : ∀ b0 : Nat, b0 < v → b0 < k → b0 = b → ∃ j, j < q ∧ (c.map (joinV i k))[j]? = some (b : Int) := by
      intro b0 h1 h2 h3
      subst h3
      obtain ⟨j, hj, hj2⟩ := h.f q v b0 hv h1
      refine ⟨j, hj, ?_⟩
      rw [List.getElem?_map, hj2]
      simp only [Option.map_some, joinV]
      rw [if_neg (by omega), if_neg (by omega)]
    unfold joinV at e
    by_cases e1 : (v : Int) = (k : Int)
    · rw [if_pos e1] at e
      exact low b (by omega) (by omega) rfl
    · rw [if_neg e1] at e
      by_cases e2 : (k : Int) < (v : Int)
      · rw [if_pos e2] at e
        by_cases hbk : b < k
        · exact low b (by omega) hbk rfl
        · obtain ⟨j, hj, hj2⟩ := h.f q v (b + 1) hv (by omega)
          refine ⟨j, hj, ?_⟩
          rw [List.getElem?_map, hj2]
          simp only [Option.map_some, joinV]
          rw [if_neg (by omega), if_pos (by omega)]
          congr 1; omega
      · rw [if_neg e2] at e
        exact low b (by omega) (by omega) rfl
  · have hg := h.g hK
    have hsame := hp.same (by omega)
    intro p q b hpb hqb
    obtain ⟨v, hv, e⟩ := back p b hpb
    obtain ⟨w, hw, e'⟩ := back q b hqb
    rw [gc_flag h.k hg hgl hv, gc_flag h.k hg hgl hw]
    have : v = w ∨ (v = i ∧ w = k) ∨ (v = k ∧ w = i) := by
      unfold joinV at e e'
      by_cases a1 : (v : Int) = (k : Int)
      · by_cases a2 : (w : Int) = (k : Int)
        · left; omega
        · rw [if_pos a1] at e
          rw [if_neg a2] at e'
          by_cases a3 : (k : Int) < (w : Int)
          · rw [if_pos a3] at e'; omega
          · rw [if_neg a3] at e'; omega
      · rw [if_neg a1] at e
        by_cases a2 : (w : Int) = (k : Int)
        · rw [if_pos a2] at e'
          by_cases a3 : (k : Int) < (v : Int)
          · rw [if_pos a3] at e; omega
          · rw [if_neg a3] at e; omega
        · rw [if_neg a2] at e'
          left
          by_cases a3 : (k : Int) < (v : Int) <;> by_cases a4 : (k : Int) < (w : Int)
          · rw [if_pos a3] at e; rw [if_pos a4] at e'; omega
          · rw [if_pos a3] at e; rw [if_neg a4] at e'; omega
          · rw [if_neg a3] at e; rw [if_pos a4] at e'; omega
          · rw [if_neg a3] at e; rw [if_neg a4] at e'; omega
    rcases this with rfl | ⟨rfl, rfl⟩ | ⟨rfl, rfl⟩
    · rfl
    · exact hsame
    · exact hsame.symm
theorem MOK.it {x : System} {n : Nat} (hgl : x.Goals.length = n) (hn : n ≤ 4000000) : ∀ (j : Nat) {c : List Int} {K : Nat}, MOK x n c K → j + 1 ≤ K → MOK x n (itM x j c K) (K - j)
  | 0, c, K, h, _ => h
  | j + 1, c, K, h, hj => by
    have h1 := h.step hgl (by omega) hn
    have := MOK.it hgl hn j h1 (by omega)
    have e : K - 1 - j = K - (j + 1) := by omega
    rw [e] at this
    exact this
theorem IsBis.mok {x : System} (hv : VSys x) {c : List Int} (h : IsBis (TSof x hv) c) : MOK x x.States.toNat c (rnk (eqL c) x.States.toNat) := by
  have hk := h.kok
  refine ⟨hk, h.2.2.focc (eqL_eqv c _), fun _ i j k hi hj => ?_⟩
  have hin : i < x.States.toNat := by have := (List.getElem?_eq_some_iff.1 hi).1; rw [hk.len] at this; exact this
  have hjn : j < x.States.toNat := by have := (List.getElem?_eq_some_iff.1 hj).1; rw [hk.len] at this; exact this
  exact h.1.goal i j hin hjn (show c[i]? = c[j]? by rw [hi, hj])
theorem sizes_law (x : System) (most : Int) (w0 : 0 ≤ most) (w1 : most ≤ 255) : law45_ShrinkSizes_p x most = some true := by
  unfold law45_ShrinkSizes_p
  obtain ⟨b, hb, hb2⟩ := large_ok x
  simp only [awake_ok, hb, tV, Option.bind_some, Bool.not_true, Bool.false_eq_true, if_false]
  cases b with
  | true => simp
  | false =>
    obtain ⟨g1, g2, g3, g4⟩ := hb2 rfl
    simp only [Bool.false_eq_true, if_false, Option.bind_some]
    by_cases hv : VSys x
    · have s1 := hv.s1
      have hg := hv.g
      have hs := g1 hv
      simp only [valB_iff.2 hv, Bool.not_true, Bool.false_eq_true, if_false, wrap_id (show -9223372036854775808 ≤ most by omega) (show most ≤ 9223372036854775807 by omega)]
      obtain ⟨⟨c, e⟩, h1, h2, c0, h3, h4⟩ := merge_ok hv (by omega) (by omega) most
      simp only at h2 h4
      subst h2
      have hm0 := h3.mok hv
      generalize hKd : rnk (eqL c0) x.States.toNat = K0 at hm0 h4
      obtain ⟨m, hm, hm1⟩ := most_nat most
      rw [hm, show ((m : Int)).toNat = m by omega] at h4
      have hK01 : 1 ≤ K0 := by obtain ⟨k, h, _⟩ := hm0.k.rng 0 (by omega); omega
      have hM := MOK.it (by omega) (by omega) (K0 - m) hm0 (by omega)
      rw [← h4] at hM
      obtain ⟨K, hKe, hKm, hK1⟩ : ∃ K, K0 - (K0 - m) = K ∧ K ≤ m ∧ 1 ≤ K := ⟨_, rfl, by omega, by omega⟩
      rw [hKe] at hM
      obtain ⟨hk, hf, hgc⟩ := hM
      have hkl := hk.le
      rw [h1]
      have hlen : (c.length : Int) = x.States := by rw [hk.len]; omega
      simp only [Option.bind_some, un2, Option.isSome_none, hlen, decide_true, Bool.not_true, Bool.or_self, Bool.false_eq_true, if_false]
      refine Ok.eq (Ok.ctl (fun i (M : Int) => ∃ m : Nat, M = (m : Int) ∧ m ≤ K ∧ (∀ j k : Nat, j < i → c[j]? = some (k : Int) → k < m) ∧ ∀ b, b < m → ∃ j, j < i ∧ c[j]? = some (b : Int)) (fun _ => False) ⟨0, rfl, by omega, fun j k h => absurd h (Nat.not_lt_zero _), fun b h => absurd h (Nat.not_lt_zero _)⟩ ?_ (fun _ h => h.elim) ?_)
      · rintro i M hi ⟨mm, rfl, a1, a2, a3⟩
        rw [hk.len] at hi
        obtain ⟨k, hkK, hki⟩ := hk.rng i hi
        simp only [idx_nat, hki, Option.bind_some]
        have hkm : k ≤ mm := by
          rcases Nat.lt_or_ge mm k with h | h
          · obtain ⟨j, hj, hj2⟩ := hf i k mm hki h
            have := a2 j mm hj hj2
            omega
          · exact h
        have n1 : ¬ (mm : Int) < (k : Int) := by omega
        have n2 : ¬ (k : Int) < 0 := by omega
        simp only [n1, n2, decide_false, Bool.or_self, Bool.false_eq_true, if_false]
        rw [wrap_id (by omega) (by omega)]
        refine Ok.ret ⟨max mm (k + 1), by omega, by omega, fun j k' hj hk' => ?_, fun b hb => ?_⟩
        · by_cases e : j = i
          · subst e; rw [hki] at hk'; simp at hk'; omega
          · have := a2 j k' (by omega) hk'; omega
        · by_cases e : b < mm
          · obtain ⟨j, hj, hj2⟩ := a3 b e; exact ⟨j, by omega, hj2⟩
          · exact ⟨i, by omega, by rw [hki]; congr 1; omega⟩
      · rintro M ⟨mm, rfl, a1, a2, a3⟩
        rw [hk.len] at a2 a3
        have hmK : mm = K := by
          obtain ⟨j, hj, hj2⟩ := hk.onto (K - 1) (by omega)
          have := a2 j (K - 1) hj hj2
          omega
        subst hmK
        have n1 : ¬ (max 1 most < (mm : Int)) := by omega
        simp only [n1, decide_false, Bool.false_eq_true, if_false]
        have hbd := bounded_ok hv hk
        by_cases h2 : (2 : Int) ≤ (mm : Int)
        · simp only [h2, decide_true, if_true]
          refine Ok.ctl (fun _ _ => True) (fun _ => False) trivial ?_ (fun _ h => h.elim) (fun _ _ => by rw [hbd]; exact Ok.ret rfl)
          rintro i _ hi _
          refine Ok.ctl (fun _ _ => True) (fun _ => False) trivial ?_ (fun _ h => h.elim) (fun _ _ => Ok.ret trivial)
          rintro j _ hj _
          rw [hk.len] at hi hj
          obtain ⟨k, _, hki⟩ := hk.rng i hi
          obtain ⟨k', _, hkj⟩ := hk.rng j hj
          obtain ⟨gi, hgi⟩ := get_some (show i < x.Goals.length by omega)
          obtain ⟨gj, hgj⟩ := get_some (show j < x.Goals.length by omega)
          simp only [idx_nat, hki, hkj, hgi, hgj, Option.bind_some]
          by_cases e : (k : Int) = (k' : Int)
          · have : k = k' := by omega
            subst this
            have hgg := hgc (by omega) i j k hki hkj
            rw [hgi, hgj] at hgg
            simp only [Option.getD_some] at hgg
            subst hgg
            simp only [decide_true, if_true, beq_self_eq_true, Bool.not_true, Option.bind_some, Bool.false_eq_true, if_false]
            exact Ok.ret trivial
          · simp only [e, decide_false, Bool.false_eq_true, if_false, Option.bind_some]
            exact Ok.ret trivial
        · simp only [h2, decide_false, Bool.false_eq_true, if_false]
          rw [hbd]
          exact Ok.ret rfl
    · simp [vnot hv]
end Go.Pw
