/-
  Plain Lean: P54.1, P54.2, StnSolutions.
-/
import Derived.Test.YtcapbkcdeeinoaaKT3
namespace Go.Pw

/-- Times that satisfy all bounds hold. -/
theorem Holds_sat {n : Nat} {E : List Bound} {d : List (List Int)} {ts : List Int} {t : Nat → Int} (hn0 : 0 < n) (hn : n ≤ 32) (h : Net n E d) (hl : ts.length = n) (ht : ∀ i, i < n → ts[i]? = some (t i)) (h0 : t 0 = 0) (hb : ∀ i, i < n → -1099511627776 ≤ t i ∧ t i ≤ 1099511627776) (hs : Sat E t) :
    Ok (stn_Network_Holds_o_p ⟨d⟩ ts) (fun r => r = true) := by
  obtain ⟨hR, f, hd, hcl, hdi⟩ := h
  have hdl : d.length = n := hd.1
  have rd : ∀ i, i < n → idx ts (i : Int) = some (t i) := fun i hi => by rw [idx_nat]; exact ht i hi
  unfold stn_Network_Holds_o_p
  have hz : Ok (if (!decide ((ts.length : Int) = (d.length : Int))) = true then some true else (idx ts 0).bind fun x => some (!decide (x = 0))) (fun z => z = false) := by
    rw [if_neg (by simp [hl, hdl])]
    have := rd 0 hn0
    rw [Int.natCast_zero] at this
    exact Ok.step this (Ok.ret (by simp [h0]))
  refine Ok.bind (hz.mono ?_)
  rintro _ rfl
  rw [if_neg (by simp), hl]
  refine Ok.ctl (fun _ _ => True) (fun _ => False) trivial ?_ (fun _ h => h.elim) fun _ _ => ?_
  · intro i _ hi _
    have := hb i hi
    refine Ok.step (rd i hi) ?_
    rw [if_neg (by simp; omega)]
    exact Ok.ret trivial
  show Ok (ctl (forC _ d.length 0 ()) _ _) _
  rw [hdl]
  refine Ok.ctl (fun _ _ => True) (fun _ => False) trivial ?_ (fun _ h => h.elim) (fun _ _ => Ok.ret rfl)
  intro i _ hi _
  obtain ⟨row, r1, r2, r3⟩ := hd.row hi
  refine Ok.step r1 (Ok.must (decide_eq_true (by omega)) ?_)
  rw [r2]
  refine Ok.ctl (fun _ _ => True) (fun _ => False) trivial ?_ (fun _ h => h.elim) (fun _ _ => Ok.ret trivial)
  intro j _ hj _
  refine Ok.step (r3 j hj) (Ok.bind (Ok.ite (fun hf => Ok.step (rd j hj) (Ok.step (rd i hi) (Ok.ret ?_))) fun _ => Ok.ret ?_))
  · have := hs.le hcl hi hj (dec_t hf)
    have b1 := hb i hi
    have b2 := hb j hj
    rw [wrap_i64 (by omega) (by omega), if_neg (by simp; omega)]
    exact Ok.ret trivial
  · rw [if_neg (by simp)]
    exact Ok.ret trivial

theorem StnSolutions_ok (times : List Int) (pairs : List Arr2_uint8) (gaps : List Int) (ht : ∀ x ∈ times, -32768 ≤ x ∧ x ≤ 32767) (hp : ∀ p ∈ pairs, (0 ≤ p.a0 ∧ p.a0 < 256) ∧ (0 ≤ p.a1 ∧ p.a1 < 256)) (hg : ∀ x ∈ gaps, 0 ≤ x ∧ x < 256) : law54_StnSolutions_p times pairs gaps = some true := by
  suffices Ok (law54_StnSolutions_p times pairs gaps) (fun r => r = true) by obtain ⟨r, h1, h2⟩ := this; rw [h1, h2]
  unfold law54_StnSolutions_p
  have hz : Ok (law54_awake_p.bind fun y => if (!y) = true then some true else if decide (20 < (times.length : Int)) = true then some true else some (decide (40 < (pairs.length : Int)))) (fun z => z = false → times.length ≤ 20) := by
    refine Ok.step awake_ok (Ok.ite (fun h => by cases h) fun _ => Ok.ite (fun _ => Ok.ret fun h => by cases h) fun h => Ok.ret fun _ => ?_)
    have := dec_f h; omega
  refine Ok.bind (hz.mono fun z hz => Ok.ite (fun _ => Ok.step awake_ok (Ok.ret rfl)) fun h => ?_)
  have hlen := hz h
  -- the times, nought ahead of them
  refine Ok.bind (Ok.forS (fun i l => l = 0 :: times.take i) (by simp) ?_ ?_)
  · rintro i _ hi rfl
    obtain ⟨x, hx⟩ : ∃ x, times[i]? = some x := ⟨times[i], by simp [hi]⟩
    have hr := ht x (List.mem_of_getElem? hx)
    refine Ok.step (by rw [idx_nat]; exact hx) ?_
    rw [wrap_i64 (by omega) (by omega)]
    refine Ok.step (a := (0 :: times.take i) ++ [x]) (by unfold app; rw [if_pos]; simp; omega) (Ok.ret ?_)
    rw [List.take_add_one, hx]
    rfl
  rintro ts hts
  rw [List.take_of_length_le (Nat.le_refl _)] at hts
  obtain ⟨n, hn⟩ : ∃ n, n = ts.length := ⟨_, rfl⟩
  have hn1 : n = times.length + 1 := by rw [hn, hts]; simp
  have hn0 : 0 < n := by omega
  have hn32 : n ≤ 32 := by omega
  obtain ⟨t, htt, htb, ht0⟩ : ∃ t : Nat → Int, (∀ i, i < n → ts[i]? = some (t i)) ∧ (∀ i, i < n → -32768 ≤ t i ∧ t i ≤ 32767) ∧ t 0 = 0 := by
    refine ⟨fun i => ts.getD i 0, fun i hi => ?_, fun i hi => ?_, by rw [hts]; rfl⟩
    · show ts[i]? = some (ts.getD i 0)
      rw [List.getD_eq_getElem?_getD, List.getElem?_eq_getElem (by omega)]; rfl
    · show -32768 ≤ ts.getD i 0 ∧ ts.getD i 0 ≤ 32767
      rw [List.getD_eq_getElem?_getD, List.getElem?_eq_getElem (by omega)]
      simp only [Option.getD_some]
      have hm : ts[i]'(by omega) ∈ 0 :: times := by rw [← hts]; exact List.getElem_mem _
      rcases List.mem_cons.1 hm with h | h
      · rw [h]; omega
      · exact ht _ h
  clear hts
  have rd : ∀ i, i < n → idx ts (i : Int) = some (t i) := fun i hi => by rw [idx_nat]; exact htt i hi
  rw [← hn]
  have pt : ∀ x : Int, 0 ≤ x → x < 256 → ∃ a : Nat, (IntKind.i64.wrap x).tmod (n : Int) = (a : Int) ∧ a < n := by
    intro x hx0 hx
    obtain ⟨k, rfl⟩ : ∃ k : Nat, x = (k : Int) := ⟨x.toNat, by omega⟩
    rw [wrap_i64 (n := (k : Int)) (by omega) (by omega)]
    refine ⟨k % n, ?_, Nat.mod_lt _ hn0⟩
    rw [Int.tmod_eq_emod_of_nonneg (by omega)]; rfl
  refine Ok.bind ((New_ok hn0 (by omega)).mono ?_)
  rintro _ ⟨d0, rfl, hd0⟩
  simp only [un2, optC, Option.isSome_none, Bool.false_eq_true, if_false]
  refine Ok.ctl (fun _ d => ∃ E, Net n E d ∧ Sat E t) (fun _ => False) ⟨[], Net.new hd0, fun _ _ _ ⟨_, hb, _⟩ => by cases hb⟩ ?_ (fun _ h => h.elim) ?_
  · rintro i d hi ⟨E, hnet, hsat⟩
    obtain ⟨p, hpi⟩ : ∃ p, pairs[i]? = some p := ⟨pairs[i], by simp [hi]⟩
    obtain ⟨q0, q1⟩ := hp p (List.mem_of_getElem? hpi)
    obtain ⟨a, ha, han⟩ := pt _ q0.1 q0.2
    obtain ⟨c, hc, hcn⟩ := pt _ q1.1 q1.2
    refine Ok.step (by rw [idx_nat]; exact hpi) (Ok.must (by simp; omega) ?_)
    rw [ha, hc]
    have b1 := htb a han
    have b2 := htb c hcn
    refine Ok.step (rd c hcn) (Ok.step (rd a han) ?_)
    rw [wrap_i64 (n := t c - t a) (by omega) (by omega)]
    have hmost : Ok (if decide ((i : Int) < (gaps.length : Int)) = true then (idx gaps (i : Int)).bind fun x => some (IntKind.i64.wrap ((t c - t a) + IntKind.i64.wrap x)) else some (t c - t a)) (fun m => t c - t a ≤ m ∧ m ≤ 1000000) := by
      refine Ok.ite (fun h => ?_) fun _ => Ok.ret (by omega)
      have h := dec_t h
      obtain ⟨x, hx⟩ : ∃ x, gaps[i]? = some x := ⟨gaps[i]'(by omega), by simp⟩
      have hr := hg x (List.mem_of_getElem? hx)
      refine Ok.step (by rw [idx_nat]; exact hx) (Ok.ret ?_)
      rw [wrap_i64 (n := x) (by omega) (by omega), wrap_i64 (by omega) (by omega)]
      omega
    refine Ok.bind (hmost.mono ?_)
    rintro m ⟨m1, m2⟩
    have hsat' := hsat.snoc (b := ⟨(a : Int), (c : Int), m⟩) rfl rfl m1
    refine Ok.bind ((Add_sat hn32 hnet ⟨by simp only; omega, by simp only; omega, by simp only; omega, by simp only; omega, by simp only; omega, by simp only; omega⟩ hsat').mono ?_)
    rintro _ ⟨d', rfl, hnet'⟩
    simp only [un2, Option.isSome_none, Bool.false_eq_true, if_false]
    exact Ok.ret ⟨_, hnet', hsat'⟩
  · rintro d ⟨E, hnet, hsat⟩
    refine Ok.bind ((Holds_sat hn0 hn32 hnet hn.symm htt ht0 (fun i hi => by have := htb i hi; omega) hsat).mono ?_)
    rintro _ rfl
    rw [if_neg (by simp)]
    obtain ⟨hR, f, hd, hcl, hdi⟩ := hnet
    refine Ok.ctl (fun _ _ => True) (fun _ => False) trivial ?_ (fun _ h => h.elim) (fun _ _ => Ok.ret rfl)
    intro i _ hi _
    refine Ok.step (rd i hi) (Ok.step (Earliest_in hd hn0 hi (fun q => by have := hcl.fine hdi hn32 hi hn0 q; omega)) ?_)
    have first : (bif ((if f i 0 < 1125899906842624 then (-(f i 0), none) else (0, some 3) : Int × Option Int).2).isNone then (decide (t i < ((if f i 0 < 1125899906842624 then (-(f i 0), none) else (0, some 3) : Int × Option Int).1)) || ((((if f i 0 < 1125899906842624 then (-(f i 0), none) else (0, some 3) : Int × Option Int).2).isSome) && !(base_Is_t ((if f i 0 < 1125899906842624 then (-(f i 0), none) else (0, some 3) : Int × Option Int).2) 3))) else ((((if f i 0 < 1125899906842624 then (-(f i 0), none) else (0, some 3) : Int × Option Int).2).isSome) && !(base_Is_t ((if f i 0 < 1125899906842624 then (-(f i 0), none) else (0, some 3) : Int × Option Int).2) 3))) = false := by
      by_cases q : f i 0 < 1125899906842624
      · have := hsat.le hcl hi hn0 q
        simp [q]; omega
      · simp [q, Is_ok]
    have second : (bif ((if f 0 i < 1125899906842624 then (f 0 i, none) else (0, some 3) : Int × Option Int).2).isNone then (decide (((if f 0 i < 1125899906842624 then (f 0 i, none) else (0, some 3) : Int × Option Int).1) < t i) || ((((if f 0 i < 1125899906842624 then (f 0 i, none) else (0, some 3) : Int × Option Int).2).isSome) && !(base_Is_t ((if f 0 i < 1125899906842624 then (f 0 i, none) else (0, some 3) : Int × Option Int).2) 3))) else ((((if f 0 i < 1125899906842624 then (f 0 i, none) else (0, some 3) : Int × Option Int).2).isSome) && !(base_Is_t ((if f 0 i < 1125899906842624 then (f 0 i, none) else (0, some 3) : Int × Option Int).2) 3))) = false := by
      by_cases q : f 0 i < 1125899906842624
      · have := hsat.le hcl hn0 hi q
        simp [q]; omega
      · simp [q, Is_ok]
    simp only [un2]
    rw [first, if_neg (by simp)]
    refine Ok.step (Latest_in hd hn0 hi) ?_
    simp only [un2]
    rw [second, if_neg (by simp)]
    exact Ok.ret trivial
end Go.Pw
