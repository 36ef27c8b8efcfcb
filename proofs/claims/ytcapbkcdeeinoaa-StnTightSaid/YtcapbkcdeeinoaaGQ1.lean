/-
  Plain Lean: P54.2, StnTight.
-/
import Derived.Test.YtcapbkcdeeinoaaGT3
namespace Go.Pw
section
variable {n : Nat} {E : List Bound} {d : List (List Int)} {f : MM} {b : Bound}
theorem Mx.uniq {l l' : List (List Int)} (h : Mx n l f) (h' : Mx n l' f) : l = l' := by
  refine List.ext_getElem? fun i => ?_
  by_cases hi : i < n
  · obtain ⟨r, a1, a2, a3⟩ := h.2 i hi
    obtain ⟨r', b1, b2, b3⟩ := h'.2 i hi
    rw [a1, b1]
    congr 1
    refine List.ext_getElem? fun j => ?_
    by_cases hj : j < n
    · rw [a3 j hj, b3 j hj]
    · rw [List.getElem?_eq_none (by omega), List.getElem?_eq_none (by omega)]
  · have := h.1
    have := h'.1
    rw [List.getElem?_eq_none (by omega), List.getElem?_eq_none (by omega)]
theorem Copy_ok (hn : n ≤ 32) (hd : Mx n d f) : Ok (stn_Network_Copy_p ⟨d⟩) (fun r => r = ⟨d⟩) := by
  unfold stn_Network_Copy_p
  refine Ok.bind ?_
  show Ok (forS _ d.length 0 []) _
  rw [hd.1]
  refine Ok.forS (fun i l => Rc i n l f) ⟨rfl, fun i hi => by omega⟩ ?_ (fun l hl => Ok.ret (by rw [Mx.uniq hl hd]))
  intro i l hi hl
  obtain ⟨row, r1, r2, r3⟩ := hd.row hi
  refine Ok.step r1 (Ok.step (a := row) ?_ (Ok.step (a := l ++ [row]) ?_ (Ok.ret (hl.push r2 (fun j hj => by have := r3 j hj; rwa [idx_nat] at this) fun _ _ _ _ => rfl))))
  · unfold slices_Clone___int_int__o_p app
    rw [if_pos (by simp; omega)]
    rfl
  · unfold app
    rw [if_pos]
    rw [hl.1]; simp; omega
theorem neg_edge (hcl : Cl (GrOf E) n n f) {a c : Nat} (ha : b.A = (a : Int)) (hc : b.B = (c : Int)) (han : a < n) (hcn : c < n) (hf : f c a < 1125899906842624) : ∃ L, Wk (GrOf (E ++ [b])) c c (f c a + b.Most) L := by
  obtain ⟨L, hL, _⟩ := hcl.snd c a hcn han hf
  exact ⟨_, (hL.mono (GrOf.sub fun b' h => List.mem_append_left _ h)).app (Wk.one ⟨b, by simp, ha, hc, rfl⟩)⟩
theorem Add_ref (hn : n ≤ 32) (h : Net n E d) (hcl : Cl (GrOf E) n n f) (hb : Rt n b) {a c : Nat} (ha : b.A = (a : Int)) (hc : b.B = (c : Int)) (han : a < n) (hcn : c < n) (hf : f c a < 1125899906842624) (hlt : f c a + b.Most < 0) :
    Ok (stn_Network_Add_p ⟨d⟩ b) (fun r => r = (some 21, d)) := by
  refine (Add_ok hn h b).mono ?_
  rintro r (⟨h1, _⟩ | ⟨_, _, h3⟩ | ⟨_, h2, _, g, _, hg, hgi⟩)
  · exact absurd hb h1
  · exact h3
  · obtain ⟨L, hL⟩ := neg_edge hcl ha hc han hcn hf
    exact absurd (hg.noneg hgi hL hcn) (by omega)
theorem Add_acc (hn : n ≤ 32) (h : Net n E d) (hcl : Cl (GrOf E) n n f) (hdi : ∀ i, i < n → f i i = 0) (hb : Rt n b) {a c : Nat} (ha : b.A = (a : Int)) (hc : b.B = (c : Int)) (han : a < n) (hcn : c < n) (hge : f c a < 1125899906842624 → 0 ≤ f c a + b.Most) :
    Ok (stn_Network_Add_p ⟨d⟩ b) (fun r => r.1 = none ∧ Net n (E ++ [b]) r.2) := by
  refine (Add_ok hn h b).mono ?_
  obtain ⟨hm, hmd⟩ := hcl.more hdi hn han hcn hb.2.2.2.2.1 hb.2.2.2.2.2 hge
  rintro r (⟨h1, _⟩ | ⟨_, ⟨i, w, L, hi, hw, hlt⟩, _⟩ | ⟨_, h2, h3⟩)
  · exact absurd hb h1
  · exact absurd ((hm.congrE (GrOf_snoc ha hc)).noneg hmd hw hi) (by omega)
  · exact ⟨h2, h3⟩
end

/-- Times that satisfy all bounds hold. -/
theorem Holds_sat {n : Nat} {E : List Bound} {d : List (List Int)} {ts : List Int} {t : Nat → Int} (hn0 : 0 < n) (hn : n ≤ 32) (h : Net n E d) (hl : ts.length = n) (ht : ∀ i, i < n → ts[i]? = some (t i)) (h0 : t 0 = 0) (hb : ∀ i, i < n → -35184372088832 ≤ t i ∧ t i ≤ 35184372088832) (hs : ∀ f, Mx n d f → Cl (GrOf E) n n f → ∀ i j, i < n → j < n → f i j < 1125899906842624 → t j - t i ≤ f i j) :
    Ok (stn_Network_Holds_p ⟨d⟩ ts) (fun r => r = true) := by
  obtain ⟨hR, f, hd, hcl, hdi⟩ := h
  have hdl : d.length = n := hd.1
  have rd : ∀ i, i < n → idx ts (i : Int) = some (t i) := fun i hi => by rw [idx_nat]; exact ht i hi
  unfold stn_Network_Holds_p
  have hz : Ok (if (!decide ((ts.length : Int) = (d.length : Int))) = true then some true else (idx ts 0).bind fun x => some (!decide (x = 0))) (fun z => z = false) := by
    rw [if_neg (by simp [hl, hdl])]
    have := rd 0 hn0
    rw [Int.natCast_zero] at this
    exact Ok.step this (Ok.ret (by simp [h0]))
  refine Ok.bind (hz.mono ?_)
  rintro _ rfl
  rw [if_neg (by simp), hl]
  refine Ok.ctl (fun _ _ => True) (fun _ => False) trivial ?_ (fun _ h => h.elim) fun _ _ => ?_
  · intro i _ hi _
    have := hb i hi
    refine Ok.step (rd i hi) ?_
    rw [if_neg (by simp; omega)]
    exact Ok.ret trivial
  show Ok (ctl (forC _ d.length 0 ()) _ _) _
  rw [hdl]
  refine Ok.ctl (fun _ _ => True) (fun _ => False) trivial ?_ (fun _ h => h.elim) (fun _ _ => Ok.ret rfl)
  intro i _ hi _
  obtain ⟨row, r1, r2, r3⟩ := hd.row hi
  refine Ok.step r1 (Ok.must (decide_eq_true (by omega)) ?_)
  rw [r2]
  refine Ok.ctl (fun _ _ => True) (fun _ => False) trivial ?_ (fun _ h => h.elim) (fun _ _ => Ok.ret trivial)
  intro j _ hj _
  refine Ok.step (r3 j hj) (Ok.bind (Ok.ite (fun hf => Ok.step (rd j hj) (Ok.step (rd i hi) (Ok.ret ?_))) fun _ => Ok.ret ?_))
  · have := hs f hd hcl i j hi hj (dec_t hf)
    have b1 := hb i hi
    have b2 := hb j hj
    rw [wrap_i64 (by omega) (by omega), if_neg (by simp; omega)]
    exact Ok.ret trivial
  · rw [if_neg (by simp)]
    exact Ok.ret trivial


theorem StnTight_ok (n : Int) (bounds : List Bound) (at0 : Int) (hn : 0 ≤ n ∧ n < 256) (hat : 0 ≤ at0 ∧ at0 < 256) : law54_StnTight_p n bounds at0 = some true := by
  suffices Ok (law54_StnTight_p n bounds at0) (fun r => r = true) by obtain ⟨r, h1, h2⟩ := this; rw [h1, h2]
  obtain ⟨m, hm, hm0, hm10⟩ : ∃ m : Nat, IntKind.i64.wrap (1 + (IntKind.i64.wrap n).tmod 10) = (m : Int) ∧ 0 < m ∧ m ≤ 10 := by
    obtain ⟨k, rfl⟩ : ∃ k : Nat, n = (k : Int) := ⟨n.toNat, by omega⟩
    rw [wrap_i64 (n := (k : Int)) (by omega) (by omega)]
    have e : (k : Int).tmod 10 = ((k % 10 : Nat) : Int) := by rw [Int.tmod_eq_emod_of_nonneg (by omega)]; rfl
    rw [e, wrap_i64 (by omega) (by omega)]
    exact ⟨1 + k % 10, by omega, by omega, by omega⟩
  obtain ⟨p, hp, hpm⟩ : ∃ a : Nat, (IntKind.i64.wrap at0).tmod (m : Int) = (a : Int) ∧ a < m := by
    obtain ⟨k, rfl⟩ : ∃ k : Nat, at0 = (k : Int) := ⟨at0.toNat, by omega⟩
    rw [wrap_i64 (n := (k : Int)) (by omega) (by omega)]
    refine ⟨k % m, ?_, Nat.mod_lt _ hm0⟩
    rw [Int.tmod_eq_emod_of_nonneg (by omega)]; rfl
  have hm32 : m ≤ 32 := by omega
  unfold law54_StnTight_p
  simp only [hm, hp]
  refine Ok.bind (Ok.step awake_ok (Ok.ite (fun h => by cases h) fun _ => Ok.ret ?_))
  refine Ok.ite (fun _ => Ok.step awake_ok (Ok.ret rfl)) fun _ => ?_
  refine Ok.bind ((New_ok hm0 (by omega)).mono ?_)
  rintro _ ⟨d0, rfl, hd0⟩
  simp only [un2, optC, Option.isSome_none, Bool.false_eq_true, if_false]
  refine Ok.ctl (fun _ d => ∃ E, Net m E d) (fun _ => False) ⟨[], Net.new hd0⟩ ?_ (fun _ h => h.elim) ?_
  · rintro i d hi ⟨E, hnet⟩
    obtain ⟨b, hb⟩ : ∃ b, bounds[i]? = some b := ⟨bounds[i], by simp [hi]⟩
    refine Ok.step (by rw [idx_nat]; exact hb) (Ok.bind ((Add_ok hm32 hnet b).mono ?_))
    rintro r (⟨_, rfl⟩ | ⟨_, _, rfl⟩ | ⟨_, h2, h3⟩)
    · simp only [Is_ok]; exact Ok.ret ⟨E, hnet⟩
    · simp only [Is_ok]; exact Ok.ret ⟨E, hnet⟩
    · obtain ⟨r1, r2⟩ := r
      simp only at h2
      subst h2
      exact Ok.ret ⟨_, h3⟩
  rintro d ⟨E, hnet⟩
  have hnet' := hnet
  obtain ⟨hR, f, hd, hcl, hdi⟩ := hnet'
  have fine : ∀ i j, i < m → j < m → f i j < 1125899906842624 → -35184372088832 ≤ f i j ∧ f i j ≤ 35184372088832 := fun i j hi hj hf => hcl.fine hdi hm32 hi hj hf
  have hfin : ∀ p, p < m → f p 0 < 1125899906842624 → -9007199254740992 ≤ f p 0 := fun p hp q => by have := fine p 0 hp hm0 q; omega
  refine Ok.bind ((Times_ok hd (by omega) hm0 hfin).mono ?_)
  rintro ⟨ts, te⟩ hts
  have hz : Ok (if te.isNone = true then ((stn_Network_Holds_p ⟨d⟩ ts).bind fun y => some (!y)) else some false) (fun z => z = false) := by
    rcases hts with ⟨_, h⟩ | ⟨k1, k2, k3, k4⟩
    · cases h
      exact Ok.ret rfl
    · simp only at k2 k3 k4
      subst k2
      refine Ok.ite (fun _ => ?_) fun h => by cases h
      refine Ok.bind ((Holds_sat hm0 hm32 hnet k3 k4 (by rw [hdi 0 hm0]; rfl) (fun i hi => by have := fine i 0 hi hm0 (k1 i hi); omega) ?_).mono ?_)
      · intro g hg hgl i j hi hj hgf
        have e1 := hcl.uniq hgl hi hj
        have := hcl.tri j hj i 0 hi hm0 (by omega) (k1 j hj)
        omega
      · rintro _ rfl; exact Ok.ret rfl
  refine Ok.bind (hz.mono ?_)
  rintro _ rfl
  rw [if_neg (by simp)]
  refine Ok.must (by simp; omega) ?_
  -- the latest time
  have last : Ok ((stn_Network_Latest_p ⟨d⟩ (p : Int)).bind (un2 fun (y : Int) (e : Option Int) => if (e.isNone && ((decide ((-1099511627776) < y)) && decide (y < 1099511627776))) = true then (((stn_Network_Copy_p (⟨d⟩ : stn_Network)).bind <| fun (q : stn_Network) =>
      (stn_Network_Add_p q (⟨(p : Int), 0, IntKind.i64.wrap ((IntKind.i64.wrap (0 - y)) - 1)⟩ : Bound)).bind <| un2 fun (y2 : (Option Int)) (_ : (List (List Int))) =>
      if (!(base_Is_t y2 21)) = true then (some true)
      else ((stn_Network_Copy_p (⟨d⟩ : stn_Network)).bind <| fun (q : stn_Network) =>
      (stn_Network_Add_p q (⟨(p : Int), 0, IntKind.i64.wrap (0 - y)⟩ : Bound)).bind <| un2 fun (y3 : (Option Int)) (_ : (List (List Int))) =>
      some y3.isSome)).bind (fun (z : Bool) => if z = true then (some false) else (some true))) else some true)) (fun r : Bool => r = true) := by
    refine Ok.step (Latest_in hd hm0 hpm) ?_
    simp only [un2]
    by_cases c : f 0 p < 1125899906842624
    · simp only [c, if_true]
      refine Ok.ite (fun h => ?_) fun _ => Ok.ret rfl
      simp only [Option.isNone_none, Bool.true_and, Bool.and_eq_true, decide_eq_true_eq] at h
      rw [wrap_i64 (n := 0 - f 0 p) (by omega) (by omega), wrap_i64 (by omega) (by omega)]
      refine Ok.bind (Ok.bind ((Copy_ok hm32 hd).mono ?_))
      rintro _ rfl
      refine Ok.bind ((Add_ref hm32 hnet hcl (b := ⟨(p : Int), 0, 0 - f 0 p - 1⟩) ⟨by simp only; omega, by simp only; omega, by simp only; omega, by simp only; omega, by simp only; omega, by simp only; omega⟩ (a := p) (c := 0) rfl rfl hpm hm0 c (by simp only; omega)).mono ?_)
      rintro _ rfl
      simp only [Is_ok]
      refine Ok.bind ((Copy_ok hm32 hd).mono ?_)
      rintro _ rfl
      refine Ok.bind ((Add_acc hm32 hnet hcl hdi (b := ⟨(p : Int), 0, 0 - f 0 p⟩) ⟨by simp only; omega, by simp only; omega, by simp only; omega, by simp only; omega, by simp only; omega, by simp only; omega⟩ (a := p) (c := 0) rfl rfl hpm hm0 (fun _ => by simp only; omega)).mono ?_)
      rintro ⟨r1, r2⟩ ⟨h1, _⟩
      simp only at h1
      subst h1
      exact Ok.ret (Ok.ret rfl)
    · simp only [c, if_false]
      exact Ok.ret rfl
  refine Ok.step (Earliest_in hd hm0 hpm (hfin p hpm)) ?_
  by_cases c : f p 0 < 1125899906842624
  · simp only [c, if_true]
    refine Ok.ite (fun h => ?_) fun _ => last
    simp only [Option.isNone_none, Bool.true_and, Bool.and_eq_true, decide_eq_true_eq] at h
    rw [wrap_i64 (n := -(f p 0) - 1) (by omega) (by omega)]
    refine Ok.bind (Ok.bind ((Copy_ok hm32 hd).mono ?_))
    rintro _ rfl
    refine Ok.bind ((Add_ref hm32 hnet hcl (b := ⟨0, (p : Int), -(f p 0) - 1⟩) ⟨by simp only; omega, by simp only; omega, by simp only; omega, by simp only; omega, by simp only; omega, by simp only; omega⟩ (a := 0) (c := p) rfl rfl hm0 hpm c (by simp only; omega)).mono ?_)
    rintro _ rfl
    simp only [un2]
    rw [if_neg (by simp [Is_ok])]
    refine Ok.bind ((Copy_ok hm32 hd).mono ?_)
    rintro _ rfl
    refine Ok.bind ((Add_acc hm32 hnet hcl hdi (b := ⟨0, (p : Int), -(f p 0)⟩) ⟨by simp only; omega, by simp only; omega, by simp only; omega, by simp only; omega, by simp only; omega, by simp only; omega⟩ (a := 0) (c := p) rfl rfl hm0 hpm (fun _ => by simp only; omega)).mono ?_)
    rintro ⟨r1, r2⟩ ⟨h1, _⟩
    simp only at h1
    subst h1
    refine Ok.ret ?_
    simp only [Option.isSome_none, Bool.false_eq_true, if_false]
    exact last
  · simp only [c, if_false]
    exact last
end Go.Pw
