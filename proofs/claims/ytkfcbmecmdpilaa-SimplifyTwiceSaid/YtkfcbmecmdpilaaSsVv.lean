/-
  All in the simplified task is relevant; it is its own simplified task, in plain Lean.
-/
import Derived.Test.YtkfcbmecmdpilaaSsVu
set_option maxHeartbeats 8000000
set_option linter.unusedSimpArgs false
set_option linter.unusedVariables false
namespace Go.Pw
theorem Alike.refl (x : GOp) : Alike x x := ⟨rfl, rfl, rfl⟩
theorem Alike.symm {x y : GOp} (h : Alike x y) : Alike y x := ⟨h.1.symm, h.2.1.symm, h.2.2.symm⟩
theorem Alike.trans {x y z : GOp} (h : Alike x y) (k : Alike y z) : Alike x z := ⟨h.1.trans k.1, h.2.1.trans k.2.1, h.2.2.trans k.2.2⟩
theorem Alike.rule {x y : GOp} {RA RF : Int → Prop} (h : Alike x y) (k : OpRule y RA RF) : OpRule x RA RF := by
  unfold OpRule Touch at *
  rw [h.1, h.2.1, h.2.2]
  exact k
/-- What is touched has one alike that stays. -/
theorem stay_alike {T : List Bool} {M : List GOp} (hc : ∀ x ∈ M, 0 ≤ x.Cost) : ∀ (n i : Nat) (x : GOp), M[i]? = some x → T[i]? = some true → x.Cost.toNat * (M.length + 1) + i < n → ∃ (j : Nat) (y : GOp), (stayL T M)[j]? = some true ∧ M[j]? = some y ∧ Alike x y
  | 0, i, x, _, _, h => absurd h (Nat.not_lt_zero _)
  | n + 1, i, x, hx, hi, h => by
    by_cases hb : ∃ j, T[j]? = some true ∧ Beats M j i
    · obtain ⟨j, hj, x', y, hx', hy, hne, hlt, ha⟩ := hb
      rw [hx] at hx'; cases hx'
      have hjl := (List.getElem?_eq_some_iff.1 hy).1
      have c1 := hc x (List.mem_of_getElem? hx)
      have c2 := hc y (List.mem_of_getElem? hy)
      have hm : y.Cost.toNat * (M.length + 1) + j < x.Cost.toNat * (M.length + 1) + i := by
        rcases hlt with hlt | ⟨hlt, hji⟩
        · have h1 : (y.Cost.toNat + 1) * (M.length + 1) ≤ x.Cost.toNat * (M.length + 1) := Nat.mul_le_mul_right _ (by omega)
          rw [Nat.succ_mul] at h1
          omega
        · rw [hlt]; omega
      obtain ⟨k, z, hk, hz, ha2⟩ := stay_alike hc n j y hy hj (by omega)
      exact ⟨k, z, hk, hz, ha.trans ha2⟩
    · exact ⟨i, x, (stayL_get (List.getElem?_eq_some_iff.1 hx).1).2 ⟨hi, hb⟩, hx, Alike.refl x⟩
theorem fl_map {f : Int → Int} {e : GExpr} {i : Int} (h : FL e i) : FL (mapE f e) (f i) := by
  induction h with
  | @here e he =>
    obtain ⟨op, N, ks⟩ := e
    simp only at he
    subst he
    rw [mapE, if_pos rfl]
    exact FL.here (e := ⟨sFlu, f N, _⟩) rfl
  | @kid e k i hk _ ih =>
    obtain ⟨op, N, ks⟩ := e
    rw [mapE, mapEs_eq]
    exact .kid (List.mem_map.2 ⟨k, hk, rfl⟩) ih
theorem cAt_map {a f : Int → Int} {c : Cond} {i : Int} (h : CAt c i) : CAt (mapC a f c) (a i) := h.imp (fun h => List.mem_map.2 ⟨i, h, rfl⟩) (fun h => List.mem_map.2 ⟨i, h, rfl⟩)
theorem cFl_map {a f : Int → Int} {c : Cond} {i : Int} (h : CFl c i) : CFl (mapC a f c) (f i) := by
  obtain ⟨t, ht, h⟩ := h
  exact ⟨mapT f t, List.mem_map.2 ⟨t, ht, rfl⟩, h.imp fl_map fl_map⟩
theorem mk_all {n : Nat} {i : Int} : Mk (List.replicate n true) i ↔ 0 ≤ i ∧ i < (n : Int) := by
  unfold Mk
  rw [List.getElem?_replicate]
  by_cases h : i.toNat < n
  · rw [if_pos h]; exact ⟨fun q => ⟨q.1, by omega⟩, fun q => ⟨q.1, rfl⟩⟩
  · rw [if_neg h]; exact ⟨fun q => by simp at q, fun q => by omega⟩
section
variable {A F : List Bool} {g : Ground}
theorem na_surj {i : Int} (h0 : 0 ≤ i) (h : i < (cnt A : Int)) : ∃ j, Mk A j ∧ at0 (numF A) j = i := by
  have hl : (idL A.length).length = A.length := idL_len _
  have hk : (keep A (idL A.length)).length = cnt A := keep_count hl
  obtain ⟨x, hx⟩ := get_len (xs := keep A (idL A.length)) (i := i.toNat) (by omega)
  obtain ⟨k, hk, _, hc⟩ := keep_at hl hx
  have hm : Mk A (k : Int) := mk_nat'.2 hk
  refine ⟨k, hm, ?_⟩
  rw [na_eq hm, Int.toNat_natCast, hc]
  omega
theorem opRule_in {na nf : Nat} {o : GOp} (ho : GOpOK (na : Int) (nf : Int) o) : OpRule o (Mk (List.replicate na true)) (Mk (List.replicate nf true)) := fun _ =>
  ⟨fun i hi => mk_all.2 (ho.pre.at hi), fun i hi => mk_all.2 (ho.pre.fl hi), fun c hc _ => ⟨fun i hi => mk_all.2 ((ho.chg c hc).w.at hi), fun i hi => mk_all.2 ((ho.chg c hc).w.fl hi)⟩,
    fun a ha => ⟨mk_all.2 ⟨(ass_rng ho.as ha).1, (ass_rng ho.as ha).2.1⟩, fun i hi => mk_all.2 ((ass_rng ho.as ha).2.2.fl hi)⟩⟩
theorem closed_in (hv : ValidG g) : Closed g (Mk (List.replicate g.Atoms.length true)) (Mk (List.replicate g.Fluents.length true)) :=
  ⟨fun c hc => ⟨fun i hi => mk_all.2 ((hv.goal c hc).at hi), fun i hi => mk_all.2 ((hv.goal c hc).fl hi)⟩, fun o ho => opRule_in (hv.op o ho)⟩
theorem tou_get {i : Nat} {o : GOp} (ho : g.Ops[i]? = some o) : (touL A F g)[i]? = some true ↔ Touch (Mk A) (Mk F) o := by
  unfold touL; rw [List.getElem?_map, ho]; simp
theorem map_get {i : Nat} {o : GOp} (ho : g.Ops[i]? = some o) : (mapL A F g)[i]? = some (mapO (at0 (numF A)) (at0 (numF F)) o) := by
  unfold mapL; rw [List.getElem?_map, ho]; rfl
theorem mapL_cost (hv : ValidG g) : ∀ x ∈ mapL A F g, 0 ≤ x.Cost := fun x hx => by
  obtain ⟨o, ho, rfl⟩ := List.mem_map.1 hx
  exact (hv.op o ho).c0
theorem least_simp (hv : ValidG g) (hL : Least g A F) : Least (simpG A F g) (List.replicate (simpG A F g).Atoms.length true) (List.replicate (simpG A F g).Fluents.length true) := by
  refine ⟨by simp, by simp, closed_in (valid_simp hv hL), fun RA RF hc => ?_⟩
  have la : (simpG A F g).Atoms.length = cnt A := keepA_len hL
  have lf : (simpG A F g).Fluents.length = cnt F := keepF_len hL
  have key : Closed g (fun i => Mk A i ∧ RA (at0 (numF A) i)) (fun i => Mk F i ∧ RF (at0 (numF F) i)) := by
    refine ⟨fun c hc' => ?_, fun o ho hT => ?_⟩
    · have h1 := hL.c.1 c hc'
      have h2 := hc.1 _ (List.mem_map.2 ⟨c, hc', rfl⟩)
      exact ⟨fun i hi => ⟨h1.1 i hi, h2.1 _ (cAt_map hi)⟩, fun i hi => ⟨h1.2 i hi, h2.2 _ (cFl_map hi)⟩⟩
    · have hT0 : Touch (Mk A) (Mk F) o := hT.imp (fun ⟨c, hc, q⟩ => ⟨c, hc, q.1⟩) (fun ⟨c, hc, q⟩ => ⟨c, hc, q.1⟩)
      obtain ⟨r1, r2, r3, r4⟩ := hL.c.2 o ho hT0
      obtain ⟨i, hi, rfl⟩ := List.getElem_of_mem ho
      have hoi := List.getElem?_eq_getElem hi
      obtain ⟨j, y, hj, hy, ha⟩ := stay_alike (mapL_cost (A := A) (F := F) hv) _ i _ (map_get hoi) ((tou_get hoi).2 hT0) (Nat.lt_succ_self _)
      have hR := ha.rule (hc.2 y (keep_mem.2 ⟨j, hj, hy⟩))
      have chg : ∀ c ∈ g.Ops[i].Changes, Mk A c.Atom → mapH (at0 (numF A)) (at0 (numF F)) c ∈ (mapO (at0 (numF A)) (at0 (numF F)) g.Ops[i]).Changes := fun c hc hm =>
        List.mem_map.2 ⟨c, List.mem_filter.2 ⟨hc, decide_eq_true (na_rng hm).1⟩, rfl⟩
      have ass : ∀ a ∈ g.Ops[i].Assigns, mapG (at0 (numF F)) a ∈ (mapO (at0 (numF A)) (at0 (numF F)) g.Ops[i]).Assigns := fun a ha => List.mem_map.2 ⟨a, ha, rfl⟩
      obtain ⟨s1, s2, s3, s4⟩ := hR (hT.imp (fun ⟨c, hc, q⟩ => ⟨_, chg c hc q.1, q.2⟩) (fun ⟨a, ha, q⟩ => ⟨_, ass a ha, q.2⟩))
      refine ⟨fun i hi => ⟨r1 i hi, s1 _ (cAt_map hi)⟩, fun i hi => ⟨r2 i hi, s2 _ (cFl_map hi)⟩, fun c hc hq => ?_, fun a ha => ?_⟩
      · have h1 := r3 c hc hq.1
        have h2 := s3 _ (chg c hc hq.1) hq.2
        exact ⟨fun i hi => ⟨h1.1 i hi, h2.1 _ (cAt_map hi)⟩, fun i hi => ⟨h1.2 i hi, h2.2 _ (cFl_map hi)⟩⟩
      · have h1 := r4 a ha
        have h2 := s4 _ (ass a ha)
        exact ⟨⟨h1.1, h2.1⟩, fun i hi => ⟨h1.2 i hi, h2.2 _ (fl_map hi)⟩⟩
  obtain ⟨k1, k2⟩ := hL.s _ _ key
  refine ⟨fun i hi => ?_, fun i hi => ?_⟩
  · rw [la] at hi
    obtain ⟨h0, h1⟩ := mk_all.1 hi
    obtain ⟨j, hj, rfl⟩ := na_surj h0 h1
    exact (k1 j hj).2
  · rw [lf] at hi
    obtain ⟨h0, h1⟩ := mk_all.1 hi
    obtain ⟨j, hj, rfl⟩ := na_surj h0 h1
    exact (k2 j hj).2
end
/-! ### where all is marked -/
theorem keep_all {α : Type} {n : Nat} {xs : List α} (h : xs.length = n) : keep (List.replicate n true) xs = xs := by
  have key : ∀ j, j ≤ xs.length → keepTo (List.replicate n true) xs j = xs.take j := by
    intro j
    induction j with
    | zero => intro _; simp [keepTo]
    | succ j ih =>
      intro hj
      obtain ⟨x, hx⟩ := get_len (xs := xs) (i := j) (by omega)
      rw [keepTo_succ hx, ih (by omega), take_snoc hx, if_pos (by rw [List.getElem?_replicate, if_pos (by omega)])]
  rw [← keepTo_len, key _ (Nat.le_refl _), List.take_length]
theorem at0_all {n : Nat} {i : Int} (h0 : 0 ≤ i) (h1 : i < (n : Int)) : at0 (numF (List.replicate n true)) i = i := by
  rw [na_eq (mk_all.2 ⟨h0, h1⟩), List.take_replicate]
  unfold cnt
  rw [List.count_replicate_self]
  omega
theorem numF_all (n : Nat) : numF (List.replicate n true) = idL n := by
  apply List.ext_getElem?
  intro i
  by_cases hi : i < n
  · rw [numF_get (by simpa using hi), idL_get hi, List.getElem?_replicate, if_pos hi, if_pos rfl, List.take_replicate]
    unfold cnt
    rw [List.count_replicate_self, Nat.min_eq_left (by omega)]
  · rw [List.getElem?_eq_none (by rw [numF_len]; simp; omega), List.getElem?_eq_none (by rw [idL_len]; omega)]
theorem mapE_id {n : Int} {f : Int → Int} {e : GExpr} (hf : ∀ i, 0 ≤ i → i < n → f i = i) (h : RE n e) : mapE f e = e := by
  induction h with
  | num a b => simp only [mapE, mapEs]; rw [if_neg (by simp)]
  | flu a b => simp only [mapE, mapEs, if_true]; rw [hf _ a b]
  | bin ho ha hb iha ihb =>
    simp only [mapE, mapEs, iha, ihb]
    rw [if_neg (by rcases ho with h | h | h <;> subst h <;> simp)]
theorem map_id_on {α : Type} {f : α → α} {l : List α} (h : ∀ x ∈ l, f x = x) : l.map f = l := by
  rw [List.map_congr_left (g := id) (by simpa using h), List.map_id]
section
variable {na nf : Int} {a f : Int → Int}
theorem mapC_id {c : Cond} (ha : ∀ i, 0 ≤ i → i < na → a i = i) (hf : ∀ i, 0 ≤ i → i < nf → f i = i) (h : CondOK na nf c) : mapC a f c = c := by
  obtain ⟨p, n, t⟩ := c
  unfold mapC
  simp only
  rw [map_id_on fun x hx => ha x (h.p.rng hx).1 (h.p.rng hx).2, map_id_on fun x hx => ha x (h.n.rng hx).1 (h.n.rng hx).2, map_id_on fun x hx => ?_]
  obtain ⟨_, h2, h3⟩ := h.t x hx
  unfold mapT
  rw [mapE_id hf h2, mapE_id hf h3]
theorem mapO_id {o : GOp} (ha : ∀ i, 0 ≤ i → i < na → a i = i) (hf : ∀ i, 0 ≤ i → i < nf → f i = i) (h : GOpOK na nf o) : mapO a f o = o := by
  obtain ⟨nm, k, p, cs, as⟩ := o
  have hc := h.chg
  have hp := h.pre
  have has := @ass_rng _ _ h.as
  simp only at hc hp has
  unfold mapO
  simp only
  rw [mapC_id ha hf hp, List.filter_eq_self.2 (fun c hc' => decide_eq_true (by rw [ha _ (hc c hc').r0 (hc c hc').r1]; exact (hc c hc').r0)), map_id_on fun x hx => ?_, map_id_on fun x hx => ?_]
  · have := has hx
    unfold mapG
    rw [hf _ this.1 this.2.1, mapE_id hf this.2.2]
  · have := hc x hx
    unfold mapH
    rw [mapC_id ha hf this.w, ha _ this.r0 this.r1]
end
section
variable {g : Ground}
theorem mapL_all (hv : ValidG g) : mapL (List.replicate g.Atoms.length true) (List.replicate g.Fluents.length true) g = g.Ops :=
  map_id_on fun o ho => mapO_id (fun i h0 h1 => at0_all h0 h1) (fun i h0 h1 => at0_all h0 h1) (hv.op o ho)
theorem staL_all (hv : ValidG g) (ht : ∀ o ∈ g.Ops, Touch (Mk (List.replicate g.Atoms.length true)) (Mk (List.replicate g.Fluents.length true)) o) (hb : ∀ p q, ¬ Beats g.Ops q p) :
    staL (List.replicate g.Atoms.length true) (List.replicate g.Fluents.length true) g = List.replicate g.Ops.length true := by
  unfold staL
  rw [mapL_all hv]
  apply List.ext_getElem?
  intro i
  by_cases hi : i < g.Ops.length
  · rw [List.getElem?_replicate, if_pos hi, stayL_get hi]
    obtain ⟨o, ho⟩ := get_len hi
    exact ⟨(tou_get ho).2 (ht o (List.mem_of_getElem? ho)), fun ⟨j, _, h⟩ => hb i j h⟩
  · rw [List.getElem?_eq_none (by rw [stayL_len]; omega), List.getElem?_eq_none (by simp; omega)]
theorem simp_all (hv : ValidG g) (ht : ∀ o ∈ g.Ops, Touch (Mk (List.replicate g.Atoms.length true)) (Mk (List.replicate g.Fluents.length true)) o) (hb : ∀ p q, ¬ Beats g.Ops q p) :
    simpG (List.replicate g.Atoms.length true) (List.replicate g.Fluents.length true) g = g := by
  unfold simpG
  rw [staL_all hv ht hb, mapL_all hv, keep_all rfl, keep_all rfl, keep_all rfl]
  have hI : ∀ i ∈ g.Init, at0 (numF (List.replicate g.Atoms.length true)) i = i := fun i hi => at0_all (hv.i.rng hi).1 (hv.i.rng hi).2
  rw [List.filter_eq_self.2 (fun i hi => decide_eq_true (by rw [hI i hi]; exact (hv.i.rng hi).1)), map_id_on hI, map_id_on fun c hc => mapC_id (fun i h0 h1 => at0_all h0 h1) (fun i h0 h1 => at0_all h0 h1) (hv.goal c hc)]
end
section
variable {A F : List Bool} {g : Ground}
theorem simp_touch (hv : ValidG g) (hL : Least g A F) : ∀ o ∈ (simpG A F g).Ops, Touch (Mk (List.replicate (simpG A F g).Atoms.length true)) (Mk (List.replicate (simpG A F g).Fluents.length true)) o := fun o ho => by
  have la : (simpG A F g).Atoms.length = cnt A := keepA_len hL
  have lf : (simpG A F g).Fluents.length = cnt F := keepF_len hL
  rw [la, lf]
  obtain ⟨i, x, hx, ht, _, rfl⟩ := sta_mem ho
  rcases ht with ⟨c, hc, hm⟩ | ⟨a, ha, hm⟩
  · exact .inl ⟨mapH (at0 (numF A)) (at0 (numF F)) c, List.mem_map.2 ⟨c, List.mem_filter.2 ⟨hc, decide_eq_true (na_rng hm).1⟩, rfl⟩, mk_all.2 (na_rng hm)⟩
  · exact .inr ⟨mapG (at0 (numF F)) a, List.mem_map.2 ⟨a, ha, rfl⟩, mk_all.2 (na_rng hm)⟩
theorem simp_unbeaten : ∀ p q, ¬ Beats (simpG A F g).Ops q p := fun p q hb => by
  have hl : (mapL A F g).length = (staL A F g).length := by unfold staL; rw [stayL_len]
  obtain ⟨x, y, hx, hy, _⟩ := id hb
  obtain ⟨i, hi, hxi, rfl⟩ := keep_at hl hx
  obtain ⟨j, hj, hB⟩ := (beats_keep hl hi).1 ⟨q, hb⟩
  have h1 := (stayL_get (List.getElem?_eq_some_iff.1 hxi).1).1 hi
  obtain ⟨_, y', _, hy', _⟩ := id hB
  have h2 := (stayL_get (List.getElem?_eq_some_iff.1 hy').1).1 hj
  exact h1.2 ⟨j, h2.1, hB⟩
end
section
variable {fu : Nat} {A F : List Bool} {g : Ground}
theorem simplifyTwice_ok (hl : LenG g) (hr : RoomT g) : ∃ fu, law19_SimplifyTwice_p fu g = some true := by
  by_cases hv : ValidG g
  · obtain ⟨s, _, hL⟩ := mrelevant_ok hv (Nat.le_refl _)
    generalize hA : s.atoms = A at hL
    generalize hF : s.fluents = F at hL
    refine ⟨fuelOf A F g, ?_⟩
    have hs : SizeOf.sizeOf g ≤ fuelOf A F g := by unfold fuelOf; omega
    have hs2 : SizeOf.sizeOf (simpG A F g) ≤ fuelOf A F g := by unfold fuelOf; omega
    have hv2 := valid_simp hv hL
    have hl2 : LenG (simpG A F g) := lenG_simp hl
    have hr2 : RoomT (simpG A F g) := roomT_simp hr
    have hL2 := least_simp hv hL
    have e1 := simplify_ok hv hl hr hs hL fuel_map
    have e2 := simplify_ok hv2 hl2 hr2 hs2 hL2 (fun x hx => by rw [mapL_all hv2] at hx; have := op_size hx; omega)
    rw [simp_all hv2 (simp_touch hv hL) simp_unbeaten, staL_all hv2 (simp_touch hv hL) simp_unbeaten, numF_all, numF_all, numF_all] at e2
    obtain ⟨d, e3, h3⟩ := mrelevant_ok hv2 hs2
    obtain ⟨ea, ef⟩ := h3.uniq hL2
    have e4 : simplify_Relevant_p (fuelOf A F g) (simpG A F g) = some (List.replicate (simpG A F g).Atoms.length true, List.replicate (simpG A F g).Fluents.length true, none) := by
      unfold simplify_Relevant_p
      rw [valid_ok hl2 hs2, e3]
      simp [hv2, ea, ef]
    unfold law19_SimplifyTwice_p
    refine law_start hl hs ?_ fun _ => ?_
    · simp [awake_ok]
    simp only [Bool.false_eq_true, if_false]
    rw [e1]
    simp only [Option.bind_some, un3, Option.isSome_none, Bool.false_eq_true, if_false]
    rw [e2, e4]
    simp only [Option.bind_some, un3, Option.isSome_none, Bool.false_eq_true, if_false]
    rw [same_ok hl2 hr2 hs2]
    simp only [Option.bind_some, Bool.not_true, Bool.false_eq_true, if_false, idL_len, List.length_replicate, decide_true]
    rw [while_run (s0 := (0 : Int)) (fun j => (j : Int)) (simpG A F g).Ops.length (by simp)]
    rotate_left
    · intro j hj
      rw [if_pos (decide_eq_true (by omega))]
      simp only [idx_nat, idL_get hj, Option.bind_some, decide_true, Bool.not_true, Bool.false_eq_true, if_false, wrap_succ hj hl2.o]
    · rw [if_neg (by simp)]
    rw [while_run (s0 := (0 : Int)) (fun j => (j : Int)) (simpG A F g).Atoms.length (by simp)]
    rotate_left
    · intro j hj
      rw [if_pos (decide_eq_true (by omega))]
      simp only [idx_nat, List.getElem?_replicate, hj, if_true, Option.bind_some, Bool.not_true, Bool.false_eq_true, if_false, wrap_succ hj hl2.a]
    · rw [if_neg (by simp)]
    rw [while_run (s0 := (0 : Int)) (fun j => (j : Int)) (simpG A F g).Fluents.length (by simp)]
    · intro j hj
      rw [if_pos (decide_eq_true (by omega))]
      simp only [idx_nat, List.getElem?_replicate, hj, if_true, Option.bind_some, Bool.not_true, Bool.false_eq_true, if_false, wrap_succ hj hl2.f]
    · rw [if_neg (by simp)]
  · refine ⟨SizeOf.sizeOf g, ?_⟩
    unfold law19_SimplifyTwice_p
    refine law_start hl (Nat.le_refl _) ?_ fun _ => ?_
    · simp [awake_ok]
    simp only [Bool.false_eq_true, if_false]
    rw [simplify_no hv hl (Nat.le_refl _), valid_ok hl (Nat.le_refl _)]
    simp [un3, hv]
end
end Go.Pw
