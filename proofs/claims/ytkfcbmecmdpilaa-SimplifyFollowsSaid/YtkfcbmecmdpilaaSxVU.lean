/-
  The simplified task is a valid one, in plain Lean.
-/
import Derived.Test.YtkfcbmecmdpilaaSxVQ
set_option maxHeartbeats 8000000
set_option linter.unusedSimpArgs false
set_option linter.unusedVariables false
namespace Go.Pw
section
variable {A F : List Bool}
theorem mk_lt {i : Int} (h : Mk A i) : 0 ≤ i ∧ i < (A.length : Int) := by
  have := (List.getElem?_eq_some_iff.1 h.2).1
  have := h.1
  omega
theorem na_eq {i : Int} (h : Mk A i) : at0 (numF A) i = ((cnt (A.take i.toNat) : Nat) : Int) := by
  rw [at0_num (mk_lt h).1 (mk_lt h).2, if_pos h.2]
theorem na_rng {i : Int} (h : Mk A i) : 0 ≤ at0 (numF A) i ∧ at0 (numF A) i < (cnt A : Int) := by
  rw [na_eq h]
  have h1 := (List.getElem?_eq_some_iff.1 h.2).1
  have := cnt_lt_take h1 h.2
  rw [List.take_length] at this
  omega
theorem na_mono {i j : Int} (hi : Mk A i) (hj : Mk A j) (h : i < j) : at0 (numF A) i < at0 (numF A) j := by
  rw [na_eq hi, na_eq hj]
  have h0 := hi.1
  have := cnt_lt_take (A := A) (show i.toNat < j.toNat by omega) hi.2
  omega
theorem na_inj {i j : Int} (hi : Mk A i) (hj : Mk A j) (h : at0 (numF A) i = at0 (numF A) j) : i = j := by
  rcases Int.lt_trichotomy i j with a | a | a
  · have := na_mono hi hj a; omega
  · exact a
  · have := na_mono hj hi a; omega
theorem asc_of_pw {l : List Int} {n : Int} (h : l.Pairwise (· < ·)) (hr : ∀ x ∈ l, 0 ≤ x ∧ x < n) : Asc l n := fun i x hx =>
  ⟨(hr x (List.mem_of_getElem? hx)).1, (hr x (List.mem_of_getElem? hx)).2, fun y h0 hy => by
    obtain ⟨hi, rfl⟩ := List.getElem?_eq_some_iff.1 hx
    obtain ⟨hi', rfl⟩ := List.getElem?_eq_some_iff.1 hy
    exact List.pairwise_iff_getElem.1 h (i - 1) i hi' hi (by omega)⟩
theorem asc_map {l : List Int} (h : l.Pairwise (· < ·)) (hm : ∀ x ∈ l, Mk A x) : Asc (l.map (at0 (numF A))) (cnt A : Int) := by
  refine asc_of_pw (List.pairwise_map.2 (h.imp_of_mem fun ha hb hab => na_mono (hm _ ha) (hm _ hb) hab)) fun x hx => ?_
  obtain ⟨y, hy, rfl⟩ := List.mem_map.1 hx
  exact na_rng (hm y hy)
theorem re_map {n : Int} {e : GExpr} (h : RE n e) : (∀ i, FL e i → Mk F i) → RE (cnt F : Int) (mapE (at0 (numF F)) e) := by
  induction h with
  | num a b => intro _; simp only [mapE, mapEs]; rw [if_neg (by simp)]; exact .num a b
  | flu a b =>
    intro hf
    simp only [mapE, mapEs]
    simp only [if_true]
    have := na_rng (hf _ (.here rfl))
    exact .flu this.1 this.2
  | bin ho ha hb iha ihb =>
    intro hf
    simp only [mapE, mapEs]
    rw [if_neg (by rcases ho with h | h | h <;> subst h <;> simp)]
    exact .bin ho (iha fun i hi => hf i (.kid (by simp) hi)) (ihb fun i hi => hf i (.kid (by simp) hi))
theorem condOK_map {na nf : Int} {c : Cond} (h : CondOK na nf c) (ha : ∀ i, CAt c i → Mk A i) (hf : ∀ i, CFl c i → Mk F i) : CondOK (cnt A : Int) (cnt F : Int) (mapC (at0 (numF A)) (at0 (numF F)) c) := by
  refine ⟨asc_map h.p.pw fun x hx => ha x (.inl hx), asc_map h.n.pw fun x hx => ha x (.inr hx), fun t ht => ?_⟩
  obtain ⟨x, hx, rfl⟩ := List.mem_map.1 ht
  obtain ⟨h1, h2, h3⟩ := h.t x hx
  exact ⟨h1, re_map h2 fun i hi => hf i ⟨x, hx, .inl hi⟩, re_map h3 fun i hi => hf i ⟨x, hx, .inr hi⟩⟩
theorem opOK_map {na nf : Int} {o : GOp} (la : (A.length : Int) = na) (h : GOpOK na nf o) (ht : Touch (Mk A) (Mk F) o) (hR : OpRule o (Mk A) (Mk F)) : GOpOK (cnt A : Int) (cnt F : Int) (mapO (at0 (numF A)) (at0 (numF F)) o) := by
  obtain ⟨r1, r2, r3, r4⟩ := hR ht
  have hfl := List.length_filter_le (fun c : GChange => decide (0 ≤ at0 (numF A) c.Atom)) o.Changes
  have hnc := h.nc
  refine ⟨h.c0, h.c1, h.nm, h.ch, ?_, condOK_map h.pre r1 r2, fun c hc => ?_, fun j a ha => ?_⟩
  · simp only [mapO, List.length_map]; omega
  · obtain ⟨x, hx, rfl⟩ := List.mem_map.1 hc
    obtain ⟨hx1, hx2⟩ := List.mem_filter.1 hx
    have hX := h.chg x hx1
    have hm := (at0_mk hX.r0 (by rw [la]; exact hX.r1)).1 (of_decide_eq_true hx2)
    have hr := na_rng hm
    have h3 := r3 x hx1 hm
    exact ⟨hr.1, hr.2, condOK_map hX.w h3.1 h3.2⟩
  · simp only [mapO, List.getElem?_map] at ha
    obtain ⟨x, hx, rfl⟩ := Option.map_eq_some_iff.1 ha
    have hX := h.as j x hx
    have h4 := r4 x (List.mem_of_getElem? hx)
    have hr := na_rng h4.1
    refine ⟨hr.1, hr.2, fun k b hk hb hf => ?_, re_map hX.2.2.2 h4.2⟩
    simp only [mapO, List.getElem?_map] at hb
    obtain ⟨y, hy, rfl⟩ := Option.map_eq_some_iff.1 hb
    exact hX.2.2.1 k y hk hy (na_inj (r4 y (List.mem_of_getElem? hy)).1 h4.1 hf)
variable {g : Ground}
theorem keepA_len (hL : Least g A F) : (keep A g.Atoms).length = cnt A := keep_count (by rw [hL.la])
theorem keepF_len (hL : Least g A F) : (keep F g.Fluents).length = cnt F := keep_count (by rw [hL.lf])
theorem sta_mem {x : GOp} (h : x ∈ keep (staL A F g) (mapL A F g)) : ∃ (i : Nat) (o : GOp), g.Ops[i]? = some o ∧ Touch (Mk A) (Mk F) o ∧ (staL A F g)[i]? = some true ∧ x = mapO (at0 (numF A)) (at0 (numF F)) o := by
  obtain ⟨i, hi, hx⟩ := keep_mem.1 h
  have hx' := hx
  unfold mapL at hx'
  rw [List.getElem?_map] at hx'
  obtain ⟨o, ho, rfl⟩ := Option.map_eq_some_iff.1 hx'
  have hT := ((stayL_get (List.getElem?_eq_some_iff.1 hx).1).1 hi).1
  refine ⟨i, o, ho, ?_, hi, rfl⟩
  unfold touL at hT
  rw [List.getElem?_map, ho] at hT
  simpa using hT
theorem valid_simp (hv : ValidG g) (hL : Least g A F) : ValidG (simpG A F g) := by
  have h1 := keepTo_le A g.Atoms g.Atoms.length
  have h2 := keepTo_le F g.Fluents g.Fluents.length
  have lM : (mapL A F g).length = g.Ops.length := by simp [mapL]
  have h4 := keepTo_le (staL A F g) (mapL A F g) g.Ops.length
  have h5 := keepTo_len (staL A F g) (mapL A F g)
  rw [lM] at h5
  have la : ((simpG A F g).Atoms.length : Int) = (cnt A : Int) := by simp only [simpG]; rw [keepA_len hL]
  have lf : ((simpG A F g).Fluents.length : Int) = (cnt F : Int) := by simp only [simpG]; rw [keepF_len hL]
  refine ⟨Nat.le_trans h1 hv.a, Nat.le_trans h2 hv.f, ?_, ?_, ?_, fun f hf => hv.flu f (keepTo_mem hf), fun c hc => ?_, fun o ho => ?_⟩
  · simp only [simpG]; rw [← h5]; exact Nat.le_trans h4 hv.o
  · simp only [simpG, List.length_map]; exact hv.gl
  · rw [la]
    refine asc_map (hv.i.pw.sublist List.filter_sublist) fun x hx => ?_
    obtain ⟨hx1, hx2⟩ := List.mem_filter.1 hx
    have := hv.i.rng hx1
    exact (at0_mk this.1 (by rw [hL.la]; exact this.2)).1 (of_decide_eq_true hx2)
  · obtain ⟨x, hx, rfl⟩ := List.mem_map.1 hc
    rw [la, lf]
    have := hL.c.1 x hx
    exact condOK_map (hv.goal x hx) this.1 this.2
  · obtain ⟨i, x, hx, ht, _, rfl⟩ := sta_mem ho
    have hm := List.mem_of_getElem? hx
    rw [la, lf]
    exact opOK_map (by rw [hL.la]) (hv.op x hm) ht (hL.c.2 x hm)
end
end Go.Pw
/-
  All in the simplified task is relevant; it is its own simplified task, in plain Lean.
-/
set_option maxHeartbeats 8000000
namespace Go.Pw
theorem Alike.refl (x : GOp) : Alike x x := ⟨rfl, rfl, rfl⟩
theorem Alike.symm {x y : GOp} (h : Alike x y) : Alike y x := ⟨h.1.symm, h.2.1.symm, h.2.2.symm⟩
theorem Alike.trans {x y z : GOp} (h : Alike x y) (k : Alike y z) : Alike x z := ⟨h.1.trans k.1, h.2.1.trans k.2.1, h.2.2.trans k.2.2⟩
theorem mk_all {n : Nat} {i : Int} : Mk (List.replicate n true) i ↔ 0 ≤ i ∧ i < (n : Int) := by
  unfold Mk
  rw [List.getElem?_replicate]
  by_cases h : i.toNat < n
  · rw [if_pos h]; exact ⟨fun q => ⟨q.1, by omega⟩, fun q => ⟨q.1, rfl⟩⟩
  · rw [if_neg h]; exact ⟨fun q => by simp at q, fun q => by omega⟩
section
variable {A F : List Bool} {g : Ground}
theorem na_surj {i : Int} (h0 : 0 ≤ i) (h : i < (cnt A : Int)) : ∃ j, Mk A j ∧ at0 (numF A) j = i := by
  have hl : (idL A.length).length = A.length := idL_len _
  have hk : (keep A (idL A.length)).length = cnt A := keep_count hl
  obtain ⟨x, hx⟩ := get_len (xs := keep A (idL A.length)) (i := i.toNat) (by omega)
  obtain ⟨k, hk, _, hc⟩ := keep_at hl hx
  have hm : Mk A (k : Int) := mk_nat'.2 hk
  refine ⟨k, hm, ?_⟩
  rw [na_eq hm, Int.toNat_natCast, hc]
  omega
theorem tou_get {i : Nat} {o : GOp} (ho : g.Ops[i]? = some o) : (touL A F g)[i]? = some true ↔ Touch (Mk A) (Mk F) o := by
  unfold touL; rw [List.getElem?_map, ho]; simp
theorem map_get {i : Nat} {o : GOp} (ho : g.Ops[i]? = some o) : (mapL A F g)[i]? = some (mapO (at0 (numF A)) (at0 (numF F)) o) := by
  unfold mapL; rw [List.getElem?_map, ho]; rfl
theorem mapL_cost (hv : ValidG g) : ∀ x ∈ mapL A F g, 0 ≤ x.Cost := fun x hx => by
  obtain ⟨o, ho, rfl⟩ := List.mem_map.1 hx
  exact (hv.op o ho).c0
end
/-! ### where all is marked -/
theorem keep_all {α : Type} {n : Nat} {xs : List α} (h : xs.length = n) : keep (List.replicate n true) xs = xs := by
  have key : ∀ j, j ≤ xs.length → keepTo (List.replicate n true) xs j = xs.take j := by
    intro j
    induction j with
    | zero => intro _; simp [keepTo]
    | succ j ih =>
      intro hj
      obtain ⟨x, hx⟩ := get_len (xs := xs) (i := j) (by omega)
      rw [keepTo_succ hx, ih (by omega), take_snoc hx, if_pos (by rw [List.getElem?_replicate, if_pos (by omega)])]
  rw [← keepTo_len, key _ (Nat.le_refl _), List.take_length]
theorem at0_all {n : Nat} {i : Int} (h0 : 0 ≤ i) (h1 : i < (n : Int)) : at0 (numF (List.replicate n true)) i = i := by
  rw [na_eq (mk_all.2 ⟨h0, h1⟩), List.take_replicate]
  unfold cnt
  rw [List.count_replicate_self]
  omega
theorem mapE_id {n : Int} {f : Int → Int} {e : GExpr} (hf : ∀ i, 0 ≤ i → i < n → f i = i) (h : RE n e) : mapE f e = e := by
  induction h with
  | num a b => simp only [mapE, mapEs]; rw [if_neg (by simp)]
  | flu a b => simp only [mapE, mapEs, if_true]; rw [hf _ a b]
  | bin ho ha hb iha ihb =>
    simp only [mapE, mapEs, iha, ihb]
    rw [if_neg (by rcases ho with h | h | h <;> subst h <;> simp)]
theorem map_id_on {α : Type} {f : α → α} {l : List α} (h : ∀ x ∈ l, f x = x) : l.map f = l := by
  rw [List.map_congr_left (g := id) (by simpa using h), List.map_id]
section
variable {na nf : Int} {a f : Int → Int}
theorem mapC_id {c : Cond} (ha : ∀ i, 0 ≤ i → i < na → a i = i) (hf : ∀ i, 0 ≤ i → i < nf → f i = i) (h : CondOK na nf c) : mapC a f c = c := by
  obtain ⟨p, n, t⟩ := c
  unfold mapC
  simp only
  rw [map_id_on fun x hx => ha x (h.p.rng hx).1 (h.p.rng hx).2, map_id_on fun x hx => ha x (h.n.rng hx).1 (h.n.rng hx).2, map_id_on fun x hx => ?_]
  obtain ⟨_, h2, h3⟩ := h.t x hx
  unfold mapT
  rw [mapE_id hf h2, mapE_id hf h3]
theorem mapO_id {o : GOp} (ha : ∀ i, 0 ≤ i → i < na → a i = i) (hf : ∀ i, 0 ≤ i → i < nf → f i = i) (h : GOpOK na nf o) : mapO a f o = o := by
  obtain ⟨nm, k, p, cs, as⟩ := o
  have hc := h.chg
  have hp := h.pre
  have has := @ass_rng _ _ h.as
  simp only at hc hp has
  unfold mapO
  simp only
  rw [mapC_id ha hf hp, List.filter_eq_self.2 (fun c hc' => decide_eq_true (by rw [ha _ (hc c hc').r0 (hc c hc').r1]; exact (hc c hc').r0)), map_id_on fun x hx => ?_, map_id_on fun x hx => ?_]
  · have := has hx
    unfold mapG
    rw [hf _ this.1 this.2.1, mapE_id hf this.2.2]
  · have := hc x hx
    unfold mapH
    rw [mapC_id ha hf this.w, ha _ this.r0 this.r1]
end
section
variable {g : Ground}
theorem mapL_all (hv : ValidG g) : mapL (List.replicate g.Atoms.length true) (List.replicate g.Fluents.length true) g = g.Ops :=
  map_id_on fun o ho => mapO_id (fun i h0 h1 => at0_all h0 h1) (fun i h0 h1 => at0_all h0 h1) (hv.op o ho)
theorem staL_all (hv : ValidG g) (ht : ∀ o ∈ g.Ops, Touch (Mk (List.replicate g.Atoms.length true)) (Mk (List.replicate g.Fluents.length true)) o) (hb : ∀ p q, ¬ Beats g.Ops q p) :
    staL (List.replicate g.Atoms.length true) (List.replicate g.Fluents.length true) g = List.replicate g.Ops.length true := by
  unfold staL
  rw [mapL_all hv]
  apply List.ext_getElem?
  intro i
  by_cases hi : i < g.Ops.length
  · rw [List.getElem?_replicate, if_pos hi, stayL_get hi]
    obtain ⟨o, ho⟩ := get_len hi
    exact ⟨(tou_get ho).2 (ht o (List.mem_of_getElem? ho)), fun ⟨j, _, h⟩ => hb i j h⟩
  · rw [List.getElem?_eq_none (by rw [stayL_len]; omega), List.getElem?_eq_none (by simp; omega)]
theorem simp_all (hv : ValidG g) (ht : ∀ o ∈ g.Ops, Touch (Mk (List.replicate g.Atoms.length true)) (Mk (List.replicate g.Fluents.length true)) o) (hb : ∀ p q, ¬ Beats g.Ops q p) :
    simpG (List.replicate g.Atoms.length true) (List.replicate g.Fluents.length true) g = g := by
  unfold simpG
  rw [staL_all hv ht hb, mapL_all hv, keep_all rfl, keep_all rfl, keep_all rfl]
  have hI : ∀ i ∈ g.Init, at0 (numF (List.replicate g.Atoms.length true)) i = i := fun i hi => at0_all (hv.i.rng hi).1 (hv.i.rng hi).2
  rw [List.filter_eq_self.2 (fun i hi => decide_eq_true (by rw [hI i hi]; exact (hv.i.rng hi).1)), map_id_on hI, map_id_on fun c hc => mapC_id (fun i h0 h1 => at0_all h0 h1) (fun i h0 h1 => at0_all h0 h1) (hv.goal c hc)]
end
section
variable {A F : List Bool} {g : Ground}
end
section
variable {fu : Nat} {A F : List Bool} {g : Ground}
end
end Go.Pw
