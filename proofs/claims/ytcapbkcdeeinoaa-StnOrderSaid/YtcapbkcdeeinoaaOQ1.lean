/-
  Plain Lean: P54.3, StnOrder.
-/
import Derived.Test.YtcapbkcdeeinoaaOT2
namespace Go.Pw

theorem StnOrder_ok (n : Int) (bounds : List Bound) (two : Arr2_uint8) (hn : 0 ≤ n ∧ n < 256) (h0 : 0 ≤ two.a0 ∧ two.a0 < 256) (h1 : 0 ≤ two.a1 ∧ two.a1 < 256) : law54_StnOrder_p n bounds two = some true := by
  suffices Ok (law54_StnOrder_p n bounds two) (fun r => r = true) by obtain ⟨r, h1, h2⟩ := this; rw [h1, h2]
  obtain ⟨m, hm, hm0, hm8⟩ : ∃ m : Nat, IntKind.i64.wrap (1 + (IntKind.i64.wrap n).tmod 8) = (m : Int) ∧ 0 < m ∧ m ≤ 8 := by
    obtain ⟨k, rfl⟩ : ∃ k : Nat, n = (k : Int) := ⟨n.toNat, by omega⟩
    rw [wrap_i64 (n := (k : Int)) (by omega) (by omega)]
    have e : (k : Int).tmod 8 = ((k % 8 : Nat) : Int) := by rw [Int.tmod_eq_emod_of_nonneg (by omega)]; rfl
    rw [e, wrap_i64 (by omega) (by omega)]
    exact ⟨1 + k % 8, by omega, by omega, by omega⟩
  have pt : ∀ x : Int, 0 ≤ x → x < 256 → ∃ a : Nat, (IntKind.i64.wrap x).tmod (m : Int) = (a : Int) ∧ a < m := by
    intro x hx0 hx
    obtain ⟨k, rfl⟩ : ∃ k : Nat, x = (k : Int) := ⟨x.toNat, by omega⟩
    rw [wrap_i64 (n := (k : Int)) (by omega) (by omega)]
    refine ⟨k % m, ?_, Nat.mod_lt _ hm0⟩
    rw [Int.tmod_eq_emod_of_nonneg (by omega)]; rfl
  obtain ⟨a, ha, ham⟩ := pt _ h0.1 h0.2
  obtain ⟨c, hc, hcm⟩ := pt _ h1.1 h1.2
  have hm32 : m ≤ 32 := by omega
  unfold law54_StnOrder_p
  simp only [hm, ha, hc]
  have hz : Ok (law54_awake_p.bind fun y => if (!y) = true then some true else some (decide (30 < (bounds.length : Int)))) (fun z => z = false → bounds.length ≤ 30) := by
    refine Ok.step awake_ok (Ok.ite (fun h => by cases h) fun _ => Ok.ret fun h => ?_)
    have := dec_f h; omega
  refine Ok.bind (hz.mono fun z hz => Ok.ite (fun _ => Ok.step awake_ok (Ok.ret rfl)) fun h => ?_)
  have hlen := hz h
  refine Ok.bind ((made_ok hm32 hm0 bounds).mono ?_)
  rintro _ (rfl | ⟨d, rfl, hnet⟩)
  · simp only [un2, optC, Bool.not_false, if_true]
    exact Ok.ret rfl
  obtain ⟨hR, f, hd, hcl, hdi⟩ := hnet
  simp only [un2, optC, Bool.not_true, Bool.false_eq_true, if_false]
  refine Ok.bind ((New_ok hm0 (by omega)).mono ?_)
  rintro _ ⟨d0, rfl, hd0⟩
  have hw0 : IntKind.i64.wrap ((bounds.length : Int) - 1) = (bounds.length : Int) - 1 := wrap_i64 (by omega) (by omega)
  rw [hw0]
  refine Ok.down (Q := fun s => Net m bounds.reverse s.2) (fun j s => s.1 = (j : Int) - 1 ∧ j ≤ bounds.length ∧ Net m (bounds.drop j).reverse s.2) ?_ ?_ ?_ bounds.length _ ⟨rfl, Nat.le_refl _, by rw [List.drop_length]; exact Net.new hd0⟩
  · rintro j ⟨i, l⟩ ⟨hi, hj, hnet⟩
    simp only at hi hnet
    simp only [un2]
    subst hi
    have e1 : ((j + 1 : Nat) : Int) - 1 = (j : Int) := by omega
    rw [e1, if_pos (decide_eq_true (by omega))]
    obtain ⟨b, hb⟩ : ∃ b, bounds[j]? = some b := ⟨bounds[j], by simp⟩
    have hmem := List.mem_of_getElem? hb
    refine Ok.step (by rw [idx_nat]; exact hb) (Ok.bind ((Add_in hm32 hcl hdi hnet (hR b hmem) ?_).mono ?_))
    · intro i' j' w L hw
      refine ⟨L, hw.mono (GrOf.sub fun b' hb' => ?_)⟩
      rcases List.mem_append.1 hb' with h | h
      · exact List.mem_of_mem_drop (List.mem_reverse.1 h)
      · have : b' = b := by simpa using h
        rw [this]; exact hmem
    · rintro _ ⟨d', rfl, hnet'⟩
      simp only [un2, Option.isSome_none, Bool.false_eq_true, if_false]
      refine Ok.ret ⟨_, rfl, by rw [wrap_i64 (by omega) (by omega)], by omega, ?_⟩
      have : bounds.drop j = b :: bounds.drop (j + 1) := by
        rw [List.drop_eq_getElem_cons (by omega)]
        congr 1
        have := (List.getElem?_eq_some_iff.1 hb).2
        exact this
      rw [this, List.reverse_cons]
      exact hnet'
  · rintro ⟨i, l⟩ ⟨hi, hj, hnet⟩
    simp only at hi hnet
    simp only [un2]
    subst hi
    rw [if_neg (by simp)]
    refine Ok.ret ⟨_, rfl, ?_⟩
    rw [List.drop_zero] at hnet
    exact hnet
  · rintro ⟨i, l⟩ hnet
    simp only at hnet
    simp only [un2]
    obtain ⟨hR', g, hl, hgl, hgi⟩ := hnet
    have hsame : Cl (GrOf bounds) m m g := hgl.congrE fun i j c => ⟨fun ⟨b, hb, k⟩ => ⟨b, List.mem_reverse.1 hb, k⟩, fun ⟨b, hb, k⟩ => ⟨b, List.mem_reverse.2 hb, k⟩⟩
    have hfg : ∀ i j, i < m → j < m → f i j = g i j := fun i j hi hj => hcl.uniq hsame hi hj
    refine Ok.must (by simp; omega) (Ok.step (Distance_in hd ham hcm) ?_)
    simp only [un2, Option.isSome_none, Bool.false_eq_true, if_false]
    -- the bound that follows
    have hfol : Ok (if decide (f a c ≤ 1099511627776) = true then (if decide (-1099511627776 ≤ f a c) = true then ((stn_Network_Add_p ⟨l⟩ ⟨(a : Int), (c : Int), f a c⟩).bind fun t => some (t.1.isSome, t.2)) else some (false, l)) else some (false, l))
        (fun r => r.1 = false ∧ ∃ g', Mx m r.2 g' ∧ ∀ i j, i < m → j < m → g' i j = f i j) := by
      have keep : ∃ g', Mx m l g' ∧ ∀ i j, i < m → j < m → g' i j = f i j := ⟨g, hl, fun i j hi hj => (hfg i j hi hj).symm⟩
      refine Ok.ite (fun h1 => ?_) fun _ => Ok.ret ⟨rfl, keep⟩
      refine Ok.ite (fun h2 => ?_) fun _ => Ok.ret ⟨rfl, keep⟩
      have h1 := dec_t h1
      have h2 := dec_t h2
      have hgac : g a c = f a c := (hfg a c ham hcm).symm
      obtain ⟨L0, hL0, _⟩ := hgl.snd a c ham hcm (by omega)
      rw [hgac] at hL0
      -- what goes over the new edge goes without it
      have over : ∀ i j w L, Wk (GrOf (bounds.reverse ++ [⟨(a : Int), (c : Int), f a c⟩])) i j w L → ∃ L', Wk (GrOf bounds.reverse) i j w L' := by
        intro i j w L hw
        induction hw with
        | nil => exact ⟨_, .nil _⟩
        | @cons i k j c' w L e t ih =>
          obtain ⟨L', hL'⟩ := ih
          obtain ⟨b, hb, e1, e2, e3⟩ := e
          rcases List.mem_append.1 hb with hb | hb
          · exact ⟨_, .cons ⟨b, hb, e1, e2, e3⟩ hL'⟩
          · have hbe : b = ⟨(a : Int), (c : Int), f a c⟩ := by simpa using hb
            subst hbe
            simp only at e1 e2 e3
            have e1' : a = i := by omega
            have e2' : c = k := by omega
            subst e1'; subst e2'; subst e3
            exact ⟨_, hL0.app hL'⟩
      refine Ok.bind ((Add_in hm32 hgl hgi ⟨hR', g, hl, hgl, hgi⟩ ⟨by simp only; omega, by simp only; omega, by simp only; omega, by simp only; omega, h2, h1⟩ over).mono ?_)
      rintro _ ⟨d', rfl, _, g', hd', hg', hgi'⟩
      refine Ok.ret ⟨rfl, g', hd', fun i j hi hj => ?_⟩
      have u1 := hgl.le i j hi hj
      have u2 := hg'.le i j hi hj
      have u3 := hfg i j hi hj
      have l1 : g' i j ≤ g i j := by
        by_cases q : g i j < 1125899906842624
        · obtain ⟨L, hL, _⟩ := hgl.snd i j hi hj q
          exact (hg'.all (hL.mono (GrOf.sub fun b hb => List.mem_append_left _ hb)) hi).1
        · omega
      have l2 : g i j ≤ g' i j := by
        by_cases q : g' i j < 1125899906842624
        · obtain ⟨L, hL, _⟩ := hg'.snd i j hi hj q
          obtain ⟨L', hL'⟩ := over _ _ _ _ hL
          exact (hgl.all hL' hi).1
        · omega
      omega
    refine Ok.bind (hfol.mono ?_)
    rintro ⟨z, l'⟩ ⟨hz, g', hd', hg'⟩
    simp only at hz hd'
    subst hz
    simp only [un2, Bool.false_eq_true, if_false]
    have hmust : decide ((m : Int) ≤ 9223372036854775807) = true := decide_eq_true (by omega)
    refine Ok.must hmust ?_
    rw [Int.toNat_natCast]
    refine Ok.ctl (fun _ _ => True) (fun _ => False) trivial ?_ (fun _ h => h.elim) (fun _ _ => Ok.ret rfl)
    intro i _ hi _
    refine Ok.must hmust (Ok.ctl (fun _ _ => True) (fun _ => False) trivial ?_ (fun _ h => h.elim) (fun _ _ => Ok.ret trivial))
    intro j _ hj _
    refine Ok.step (Distance_in hd hi hj) (Ok.step (Distance_in hd' hi hj) ?_)
    simp only [un2, Option.isSome_none, Bool.false_or]
    rw [hg' i j hi hj, if_neg (by simp)]
    exact Ok.ret trivial
end Go.Pw
