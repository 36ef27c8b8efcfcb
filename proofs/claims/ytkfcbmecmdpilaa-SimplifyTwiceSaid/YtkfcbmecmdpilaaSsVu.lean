/-
  The simplified task is a valid one, in plain Lean.
-/
import Derived.Test.YtkfcbmecmdpilaaSsVQ
set_option maxHeartbeats 8000000
set_option linter.unusedSimpArgs false
set_option linter.unusedVariables false
namespace Go.Pw
section
variable {A F : List Bool}
theorem mk_lt {i : Int} (h : Mk A i) : 0 ≤ i ∧ i < (A.length : Int) := by
  have := (List.getElem?_eq_some_iff.1 h.2).1
  have := h.1
  omega
theorem na_eq {i : Int} (h : Mk A i) : at0 (numF A) i = ((cnt (A.take i.toNat) : Nat) : Int) := by
  rw [at0_num (mk_lt h).1 (mk_lt h).2, if_pos h.2]
theorem na_rng {i : Int} (h : Mk A i) : 0 ≤ at0 (numF A) i ∧ at0 (numF A) i < (cnt A : Int) := by
  rw [na_eq h]
  have h1 := (List.getElem?_eq_some_iff.1 h.2).1
  have := cnt_lt_take h1 h.2
  rw [List.take_length] at this
  omega
theorem na_mono {i j : Int} (hi : Mk A i) (hj : Mk A j) (h : i < j) : at0 (numF A) i < at0 (numF A) j := by
  rw [na_eq hi, na_eq hj]
  have h0 := hi.1
  have := cnt_lt_take (A := A) (show i.toNat < j.toNat by omega) hi.2
  omega
theorem na_inj {i j : Int} (hi : Mk A i) (hj : Mk A j) (h : at0 (numF A) i = at0 (numF A) j) : i = j := by
  rcases Int.lt_trichotomy i j with a | a | a
  · have := na_mono hi hj a; omega
  · exact a
  · have := na_mono hj hi a; omega
theorem asc_of_pw {l : List Int} {n : Int} (h : l.Pairwise (· < ·)) (hr : ∀ x ∈ l, 0 ≤ x ∧ x < n) : Asc l n := fun i x hx =>
  ⟨(hr x (List.mem_of_getElem? hx)).1, (hr x (List.mem_of_getElem? hx)).2, fun y h0 hy => by
    obtain ⟨hi, rfl⟩ := List.getElem?_eq_some_iff.1 hx
    obtain ⟨hi', rfl⟩ := List.getElem?_eq_some_iff.1 hy
    exact List.pairwise_iff_getElem.1 h (i - 1) i hi' hi (by omega)⟩
theorem asc_map {l : List Int} (h : l.Pairwise (· < ·)) (hm : ∀ x ∈ l, Mk A x) : Asc (l.map (at0 (numF A))) (cnt A : Int) := by
  refine asc_of_pw (List.pairwise_map.2 (h.imp_of_mem fun ha hb hab => na_mono (hm _ ha) (hm _ hb) hab)) fun x hx => ?_
  obtain ⟨y, hy, rfl⟩ := List.mem_map.1 hx
  exact na_rng (hm y hy)
theorem re_map {n : Int} {e : GExpr} (h : RE n e) : (∀ i, FL e i → Mk F i) → RE (cnt F : Int) (mapE (at0 (numF F)) e) := by
  induction h with
  | num a b => intro _; simp only [mapE, mapEs]; rw [if_neg (by simp)]; exact .num a b
  | flu a b =>
    intro hf
    simp only [mapE, mapEs]
    simp only [if_true]
    have := na_rng (hf _ (.here rfl))
    exact .flu this.1 this.2
  | bin ho ha hb iha ihb =>
    intro hf
    simp only [mapE, mapEs]
    rw [if_neg (by rcases ho with h | h | h <;> subst h <;> simp)]
    exact .bin ho (iha fun i hi => hf i (.kid (by simp) hi)) (ihb fun i hi => hf i (.kid (by simp) hi))
theorem condOK_map {na nf : Int} {c : Cond} (h : CondOK na nf c) (ha : ∀ i, CAt c i → Mk A i) (hf : ∀ i, CFl c i → Mk F i) : CondOK (cnt A : Int) (cnt F : Int) (mapC (at0 (numF A)) (at0 (numF F)) c) := by
  refine ⟨asc_map h.p.pw fun x hx => ha x (.inl hx), asc_map h.n.pw fun x hx => ha x (.inr hx), fun t ht => ?_⟩
  obtain ⟨x, hx, rfl⟩ := List.mem_map.1 ht
  obtain ⟨h1, h2, h3⟩ := h.t x hx
  exact ⟨h1, re_map h2 fun i hi => hf i ⟨x, hx, .inl hi⟩, re_map h3 fun i hi => hf i ⟨x, hx, .inr hi⟩⟩
theorem opOK_map {na nf : Int} {o : GOp} (la : (A.length : Int) = na) (h : GOpOK na nf o) (ht : Touch (Mk A) (Mk F) o) (hR : OpRule o (Mk A) (Mk F)) : GOpOK (cnt A : Int) (cnt F : Int) (mapO (at0 (numF A)) (at0 (numF F)) o) := by
  obtain ⟨r1, r2, r3, r4⟩ := hR ht
  have hfl := List.length_filter_le (fun c : GChange => decide (0 ≤ at0 (numF A) c.Atom)) o.Changes
  have hnc := h.nc
  refine ⟨h.c0, h.c1, h.nm, h.ch, ?_, condOK_map h.pre r1 r2, fun c hc => ?_, fun j a ha => ?_⟩
  · simp only [mapO, List.length_map]; omega
  · obtain ⟨x, hx, rfl⟩ := List.mem_map.1 hc
    obtain ⟨hx1, hx2⟩ := List.mem_filter.1 hx
    have hX := h.chg x hx1
    have hm := (at0_mk hX.r0 (by rw [la]; exact hX.r1)).1 (of_decide_eq_true hx2)
    have hr := na_rng hm
    have h3 := r3 x hx1 hm
    exact ⟨hr.1, hr.2, condOK_map hX.w h3.1 h3.2⟩
  · simp only [mapO, List.getElem?_map] at ha
    obtain ⟨x, hx, rfl⟩ := Option.map_eq_some_iff.1 ha
    have hX := h.as j x hx
    have h4 := r4 x (List.mem_of_getElem? hx)
    have hr := na_rng h4.1
    refine ⟨hr.1, hr.2, fun k b hk hb hf => ?_, re_map hX.2.2.2 h4.2⟩
    simp only [mapO, List.getElem?_map] at hb
    obtain ⟨y, hy, rfl⟩ := Option.map_eq_some_iff.1 hb
    exact hX.2.2.1 k y hk hy (na_inj (r4 y (List.mem_of_getElem? hy)).1 h4.1 hf)
variable {g : Ground}
theorem keepA_len (hL : Least g A F) : (keep A g.Atoms).length = cnt A := keep_count (by rw [hL.la])
theorem keepF_len (hL : Least g A F) : (keep F g.Fluents).length = cnt F := keep_count (by rw [hL.lf])
theorem sta_mem {x : GOp} (h : x ∈ keep (staL A F g) (mapL A F g)) : ∃ (i : Nat) (o : GOp), g.Ops[i]? = some o ∧ Touch (Mk A) (Mk F) o ∧ (staL A F g)[i]? = some true ∧ x = mapO (at0 (numF A)) (at0 (numF F)) o := by
  obtain ⟨i, hi, hx⟩ := keep_mem.1 h
  have hx' := hx
  unfold mapL at hx'
  rw [List.getElem?_map] at hx'
  obtain ⟨o, ho, rfl⟩ := Option.map_eq_some_iff.1 hx'
  have hT := ((stayL_get (List.getElem?_eq_some_iff.1 hx).1).1 hi).1
  refine ⟨i, o, ho, ?_, hi, rfl⟩
  unfold touL at hT
  rw [List.getElem?_map, ho] at hT
  simpa using hT
theorem valid_simp (hv : ValidG g) (hL : Least g A F) : ValidG (simpG A F g) := by
  have h1 := keepTo_le A g.Atoms g.Atoms.length
  have h2 := keepTo_le F g.Fluents g.Fluents.length
  have lM : (mapL A F g).length = g.Ops.length := by simp [mapL]
  have h4 := keepTo_le (staL A F g) (mapL A F g) g.Ops.length
  have h5 := keepTo_len (staL A F g) (mapL A F g)
  rw [lM] at h5
  have la : ((simpG A F g).Atoms.length : Int) = (cnt A : Int) := by simp only [simpG]; rw [keepA_len hL]
  have lf : ((simpG A F g).Fluents.length : Int) = (cnt F : Int) := by simp only [simpG]; rw [keepF_len hL]
  refine ⟨Nat.le_trans h1 hv.a, Nat.le_trans h2 hv.f, ?_, ?_, ?_, fun f hf => hv.flu f (keepTo_mem hf), fun c hc => ?_, fun o ho => ?_⟩
  · simp only [simpG]; rw [← h5]; exact Nat.le_trans h4 hv.o
  · simp only [simpG, List.length_map]; exact hv.gl
  · rw [la]
    refine asc_map (hv.i.pw.sublist List.filter_sublist) fun x hx => ?_
    obtain ⟨hx1, hx2⟩ := List.mem_filter.1 hx
    have := hv.i.rng hx1
    exact (at0_mk this.1 (by rw [hL.la]; exact this.2)).1 (of_decide_eq_true hx2)
  · obtain ⟨x, hx, rfl⟩ := List.mem_map.1 hc
    rw [la, lf]
    have := hL.c.1 x hx
    exact condOK_map (hv.goal x hx) this.1 this.2
  · obtain ⟨i, x, hx, ht, _, rfl⟩ := sta_mem ho
    have hm := List.mem_of_getElem? hx
    rw [la, lf]
    exact opOK_map (by rw [hL.la]) (hv.op x hm) ht (hL.c.2 x hm)
end
end Go.Pw
