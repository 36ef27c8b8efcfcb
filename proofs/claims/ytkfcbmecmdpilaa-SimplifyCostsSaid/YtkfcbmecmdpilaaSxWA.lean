/-
  What a ground task means, and what a state is in the simplified task, in plain Lean.
-/
import Derived.Test.YtkfcbmecmdpilaaSxVU
set_option maxHeartbeats 8000000
set_option linter.unusedSimpArgs false
set_option linter.unusedVariables false
namespace Go.Pw
theorem pw_ext : ∀ {l k : List Int}, l.Pairwise (· < ·) → k.Pairwise (· < ·) → (∀ e, e ∈ l ↔ e ∈ k) → l = k
  | [], [], _, _, _ => rfl
  | [], y :: k, _, _, h => absurd ((h y).2 (by simp)) (by simp)
  | x :: l, [], _, _, h => absurd ((h x).1 (by simp)) (by simp)
  | x :: l, y :: k, h1, h2, h => by
    obtain ⟨a1, a2⟩ := List.pairwise_cons.1 h1
    obtain ⟨b1, b2⟩ := List.pairwise_cons.1 h2
    have hxy : x = y := by
      rcases List.mem_cons.1 ((h x).1 (by simp)) with e | e
      · exact e
      · rcases List.mem_cons.1 ((h y).2 (by simp)) with e2 | e2
        · exact e2.symm
        · have := a1 y e2
          have := b1 x e
          omega
    subst hxy
    congr 1
    refine pw_ext a2 b2 fun e => ?_
    constructor
    · intro he
      rcases List.mem_cons.1 ((h e).1 (by simp [he])) with q | q
      · subst q; have := a1 e he; omega
      · exact q
    · intro he
      rcases List.mem_cons.1 ((h e).2 (by simp [he])) with q | q
      · subst q; have := b1 e he; omega
      · exact q
theorem idL_pw (n : Nat) : (idL n).Pairwise (· < ·) := by
  unfold idL
  refine List.pairwise_map.2 (List.pairwise_lt_range.imp fun h => by omega)
theorem idL_mem {n : Nat} {i : Int} : i ∈ idL n ↔ 0 ≤ i ∧ i < (n : Int) := by
  unfold idL
  rw [List.mem_map]
  constructor
  · rintro ⟨k, hk, rfl⟩
    have := List.mem_range.1 hk
    omega
  · rintro ⟨h0, h1⟩
    exact ⟨i.toNat, List.mem_range.2 (by omega), by omega⟩
section
variable (cb : ByteArray → Int → Int → Int × Bool)
mutual
def valS (V : List Int) : GExpr → Int × Bool
  | ⟨op, N, ks⟩ => if op = sNum then (N, true) else if op = sFlu then ((V[N.toNat]?).getD 0, true) else
    match valsS V ks with
    | [x, y] => if x.2 = true ∧ y.2 = true then cb op x.1 y.1 else (0, false)
    | _ => (0, false)
def valsS (V : List Int) : List GExpr → List (Int × Bool)
  | [] => []
  | k :: ks => valS V k :: valsS V ks
end
def cmpS (op : ByteArray) (x y : Int) : Prop := op = sLt1 ∧ x < y ∨ op = sLe1 ∧ x ≤ y ∨ op = sEq1 ∧ x = y
def testS (V : List Int) (t : GTest) : Prop := (valS cb V t.A).2 = true ∧ (valS cb V t.B).2 = true ∧ cmpS t.Op (valS cb V t.A).1 (valS cb V t.B).1
def holdS (s : GState) (c : Cond) : Prop := (∀ i ∈ c.Pos, i ∈ s.True) ∧ (∀ i ∈ c.Neg, i ∉ s.True) ∧ ∀ t ∈ c.Tests, testS cb s.Values t
def canS (g : Ground) (s : GState) (o : GOp) : Prop := holdS cb s o.Pre ∧ ∀ a ∈ o.Assigns, (valS cb s.Values a.Value).2 = true ∧ ∀ f, g.Fluents[a.Fluent.toNat]? = some f → f.Lo ≤ (valS cb s.Values a.Value).1 ∧ (valS cb s.Values a.Value).1 ≤ f.Hi
def isS (s : GState) (o : GOp) (i : Int) : Prop := (∃ c ∈ o.Changes, c.Atom = i ∧ c.Add = true ∧ holdS cb s c.When) ∨ (i ∈ s.True ∧ ¬ ∃ c ∈ o.Changes, c.Atom = i ∧ c.Add = false ∧ holdS cb s c.When)
def newV (V0 : List Int) (l : List GAssign) (V : List Int) : List Int := l.foldl (fun V a => V.set a.Fluent.toNat (valS cb V0 a.Value).1) V
open Classical in
noncomputable def nextS (n : Nat) (s : GState) (o : GOp) : GState := ⟨(idL n).filter fun i => decide (isS cb s o i), newV cb s.Values o.Assigns s.Values⟩
def goalS (g : Ground) (s : GState) : Prop := ∃ c ∈ g.Goal, holdS cb s c
def initS (g : Ground) : GState := ⟨g.Init, g.Fluents.map fun f => f.Init⟩
structure PropS (g : Ground) (s : GState) : Prop where
  t : Asc s.True (g.Atoms.length : Int)
  l : s.Values.length = g.Fluents.length
  r : ∀ (i : Nat) f v, g.Fluents[i]? = some f → s.Values[i]? = some v → f.Lo ≤ v ∧ v ≤ f.Hi
/-- What a state is in the simplified task. -/
def piS (A F : List Bool) (s : GState) : GState := ⟨(s.True.filter fun i => decide (0 ≤ at0 (numF A) i)).map (at0 (numF A)), keep F s.Values⟩
theorem valS_bin {V : List Int} {op : ByteArray} {a b : GExpr} (ho : op = sAdd ∨ op = sSub ∨ op = sMul) : valS cb V ⟨op, 0, [a, b]⟩ = if (valS cb V a).2 = true ∧ (valS cb V b).2 = true then cb op (valS cb V a).1 (valS cb V b).1 else (0, false) := by
  have h1 : op ≠ sNum := by rcases ho with h | h | h <;> subst h <;> simp
  have h2 : op ≠ sFlu := by rcases ho with h | h | h <;> subst h <;> simp
  rw [valS, if_neg h1, if_neg h2]
  simp only [valsS]
end
section
variable {cb : ByteArray → Int → Int → Int × Bool} {A F : List Bool} {g : Ground} {s : GState}
theorem keep_mk {α : Type} {xs : List α} (hl : xs.length = F.length) {i : Int} (h : Mk F i) : (keep F xs)[(at0 (numF F) i).toNat]? = xs[i.toNat]? := by
  obtain ⟨x, hx⟩ := get_len (xs := xs) (i := i.toNat) (by have := (List.getElem?_eq_some_iff.1 h.2).1; omega)
  rw [na_eq h, Int.toNat_natCast, keep_get hl h.2 hx, hx]
theorem val_map {n : Int} {V : List Int} (hl : V.length = F.length) {e : GExpr} (h : RE n e) : (∀ i, FL e i → Mk F i) → valS cb (keep F V) (mapE (at0 (numF F)) e) = valS cb V e := by
  induction h with
  | num a b =>
    intro _
    simp only [mapE, mapEs, valS, if_true]
    rw [if_neg (by simp)]
  | flu a b =>
    intro hf
    simp only [mapE, mapEs, valS, if_true]
    rw [keep_mk hl (hf _ (.here rfl)), if_neg (show ¬ sFlu = sNum by simp), if_neg (show ¬ sFlu = sNum by simp)]
  | bin ho ha hb iha ihb =>
    intro hf
    simp only [mapE, mapEs]
    rw [if_neg (by rcases ho with h | h | h <;> subst h <;> simp), valS_bin cb ho, valS_bin cb ho, iha fun i hi => hf i (.kid (by simp) hi), ihb fun i hi => hf i (.kid (by simp) hi)]
theorem mem_pi (hr : ∀ i ∈ s.True, 0 ≤ i ∧ i < (A.length : Int)) {i : Int} (h : Mk A i) : at0 (numF A) i ∈ (piS A F s).True ↔ i ∈ s.True := by
  unfold piS
  simp only [List.mem_map, List.mem_filter, decide_eq_true_eq]
  constructor
  · rintro ⟨j, ⟨hj, h0⟩, e⟩
    have := hr j hj
    rw [← na_inj ((at0_mk this.1 this.2).1 h0) h e]
    exact hj
  · intro hi
    exact ⟨i, ⟨hi, (na_rng h).1⟩, rfl⟩
theorem hold_map {na nf : Int} {c : Cond} (hr : ∀ i ∈ s.True, 0 ≤ i ∧ i < (A.length : Int)) (hl : s.Values.length = F.length) (hc : CondOK na nf c) (ha : ∀ i, CAt c i → Mk A i) (hf : ∀ i, CFl c i → Mk F i) :
    holdS cb (piS A F s) (mapC (at0 (numF A)) (at0 (numF F)) c) ↔ holdS cb s c := by
  have ht : ∀ t ∈ c.Tests, testS cb (piS A F s).Values (mapT (at0 (numF F)) t) ↔ testS cb s.Values t := fun t ht => by
    obtain ⟨_, h2, h3⟩ := hc.t t ht
    unfold testS
    show (valS cb (keep F s.Values) (mapE _ t.A)).2 = true ∧ (valS cb (keep F s.Values) (mapE _ t.B)).2 = true ∧ cmpS t.Op (valS cb (keep F s.Values) (mapE _ t.A)).1 (valS cb (keep F s.Values) (mapE _ t.B)).1 ↔ _
    rw [val_map hl h2 fun i hi => hf i ⟨t, ht, .inl hi⟩, val_map hl h3 fun i hi => hf i ⟨t, ht, .inr hi⟩]
  unfold holdS mapC
  simp only [List.mem_map, forall_exists_index, and_imp, forall_apply_eq_imp_iff₂]
  constructor
  · rintro ⟨h1, h2, h3⟩
    exact ⟨fun i hi => (mem_pi hr (ha i (.inl hi))).1 (h1 i hi), fun i hi q => h2 i hi ((mem_pi hr (ha i (.inr hi))).2 q), fun t htm => (ht t htm).1 (h3 t htm)⟩
  · rintro ⟨h1, h2, h3⟩
    exact ⟨fun i hi => (mem_pi hr (ha i (.inl hi))).2 (h1 i hi), fun i hi q => h2 i hi ((mem_pi hr (ha i (.inr hi))).1 q), fun t htm => (ht t htm).2 (h3 t htm)⟩
theorem newV_len (V0 : List Int) : ∀ (l : List GAssign) (V : List Int), (newV cb V0 l V).length = V.length
  | [], V => rfl
  | a :: l, V => by
    unfold newV
    rw [List.foldl_cons]
    have := newV_len V0 l (V.set a.Fluent.toNat (valS cb V0 a.Value).1)
    unfold newV at this
    rw [this, List.length_set]
theorem newV_miss (V0 : List Int) {j : Nat} : ∀ (l : List GAssign) (V : List Int), (∀ a ∈ l, a.Fluent.toNat ≠ j) → (newV cb V0 l V)[j]? = V[j]?
  | [], V, _ => rfl
  | a :: l, V, h => by
    unfold newV
    rw [List.foldl_cons]
    have := newV_miss V0 l (V.set a.Fluent.toNat (valS cb V0 a.Value).1) fun b hb => h b (by simp [hb])
    unfold newV at this
    rw [this, List.getElem?_set_ne (h a (by simp))]
theorem newV_hit (V0 : List Int) {a : GAssign} : ∀ (l : List GAssign) (V : List Int), l.Pairwise (fun a b => a.Fluent.toNat ≠ b.Fluent.toNat) → a ∈ l → a.Fluent.toNat < V.length → (newV cb V0 l V)[a.Fluent.toNat]? = some (valS cb V0 a.Value).1
  | [], V, _, h, _ => by simp at h
  | b :: l, V, hp, h, hV => by
    obtain ⟨h1, h2⟩ := List.pairwise_cons.1 hp
    have hrec : newV cb V0 (b :: l) V = newV cb V0 l (V.set b.Fluent.toNat (valS cb V0 b.Value).1) := by unfold newV; rw [List.foldl_cons]
    rw [hrec]
    rcases List.mem_cons.1 h with rfl | h
    · rw [newV_miss V0 l _ fun c hc => (h1 c hc).symm, List.getElem?_set_self hV]
    · exact newV_hit V0 l _ h2 h (by rw [List.length_set]; exact hV)
theorem ass_pw {nf : Int} {o : GOp} (h : ∀ j, AssAt nf o.Assigns j) : o.Assigns.Pairwise (fun a b => a.Fluent.toNat ≠ b.Fluent.toNat) :=
  List.pairwise_iff_getElem.2 fun i j hi hj hij => by
    have h1 := h j _ (List.getElem?_eq_getElem hj)
    have h2 := h i _ (List.getElem?_eq_getElem hi)
    have := h1.2.2.1 i _ hij (List.getElem?_eq_getElem hi)
    have := h1.1
    have := h2.1
    omega
/-! ### proper states -/
theorem init_prop (hv : ValidG g) : PropS g (initS g) := by
  refine ⟨hv.i, by simp [initS], fun i f v hf hvv => ?_⟩
  simp only [initS, List.getElem?_map, hf, Option.map_some, Option.some.injEq] at hvv
  subst hvv
  have := hv.flu f (List.mem_of_getElem? hf)
  exact ⟨this.2.1, this.2.2.1⟩
theorem next_prop {o : GOp} (ho : GOpOK (g.Atoms.length : Int) (g.Fluents.length : Int) o) (hs : PropS g s) (hc : canS cb g s o) : PropS g (nextS cb g.Atoms.length s o) := by
  refine ⟨asc_of_pw ((idL_pw _).sublist List.filter_sublist) fun x hx => idL_mem.1 (List.mem_filter.1 hx).1, ?_, fun i f v hf hvv => ?_⟩
  · show (newV cb s.Values o.Assigns s.Values).length = _
    rw [newV_len, hs.l]
  · have hvv : (newV cb s.Values o.Assigns s.Values)[i]? = some v := hvv
    by_cases h : ∃ a ∈ o.Assigns, a.Fluent.toNat = i
    · obtain ⟨a, ha, rfl⟩ := h
      have hr := ass_rng ho.as ha
      rw [newV_hit _ _ _ (ass_pw ho.as) ha (by rw [hs.l]; omega)] at hvv
      cases hvv
      exact (hc.2 a ha).2 f hf
    · rw [newV_miss _ _ _ fun a ha e => h ⟨a, ha, e⟩] at hvv
      exact hs.r i f v hf hvv
theorem keep_map {α β : Type} (f : α → β) (S : List Bool) (xs : List α) : keep S (xs.map f) = (keep S xs).map f := by
  unfold keep
  rw [List.map_filterMap, List.length_map]
  congr 1
  funext i
  by_cases h : S[i]? = some true
  · rw [if_pos h, if_pos h, List.getElem?_map]
  · rw [if_neg h, if_neg h]; rfl
theorem pi_init : piS A F (initS g) = initS (simpG A F g) := by
  unfold piS initS simpG
  simp only
  rw [keep_map]
/-! ### operators that a relevant thing is touched by -/
variable {o : GOp}
theorem PropS.rng (hs : PropS g s) (la : A.length = g.Atoms.length) : ∀ i ∈ s.True, 0 ≤ i ∧ i < (A.length : Int) := fun i hi => by rw [la]; exact hs.t.rng hi
theorem can_map (hL : Least g A F) (hs : PropS g s) (ho : GOpOK (g.Atoms.length : Int) (g.Fluents.length : Int) o) (hT : Touch (Mk A) (Mk F) o) (hR : OpRule o (Mk A) (Mk F)) :
    canS cb (simpG A F g) (piS A F s) (mapO (at0 (numF A)) (at0 (numF F)) o) ↔ canS cb g s o := by
  obtain ⟨r1, r2, r3, r4⟩ := hR hT
  have hl : s.Values.length = F.length := by rw [hs.l, hL.lf]
  have hass : ∀ a ∈ o.Assigns, valS cb (keep F s.Values) (mapE (at0 (numF F)) a.Value) = valS cb s.Values a.Value := fun a ha => val_map hl (ass_rng ho.as ha).2.2 (r4 a ha).2
  have hflu : ∀ a ∈ o.Assigns, (keep F g.Fluents)[(at0 (numF F) a.Fluent).toNat]? = g.Fluents[a.Fluent.toNat]? := fun a ha => keep_mk (by rw [hL.lf]) (r4 a ha).1
  unfold canS
  rw [show (mapO (at0 (numF A)) (at0 (numF F)) o).Pre = mapC (at0 (numF A)) (at0 (numF F)) o.Pre from rfl, hold_map (hs.rng hL.la) hl ho.pre r1 r2]
  refine and_congr_right fun _ => ?_
  show (∀ a ∈ o.Assigns.map (mapG (at0 (numF F))), _) ↔ _
  simp only [List.mem_map, forall_exists_index, and_imp, forall_apply_eq_imp_iff₂]
  refine forall_congr' fun a => forall_congr' fun ha => ?_
  show (valS cb (keep F s.Values) (mapE (at0 (numF F)) a.Value)).2 = true ∧ (∀ f, (keep F g.Fluents)[(at0 (numF F) a.Fluent).toNat]? = some f → f.Lo ≤ (valS cb (keep F s.Values) (mapE (at0 (numF F)) a.Value)).1 ∧ (valS cb (keep F s.Values) (mapE (at0 (numF F)) a.Value)).1 ≤ f.Hi) ↔ _
  rw [hass a ha, hflu a ha]
theorem is_map (hL : Least g A F) (hs : PropS g s) (ho : GOpOK (g.Atoms.length : Int) (g.Fluents.length : Int) o) (hT : Touch (Mk A) (Mk F) o) (hR : OpRule o (Mk A) (Mk F)) {i : Int} (hi : Mk A i) :
    isS cb (piS A F s) (mapO (at0 (numF A)) (at0 (numF F)) o) (at0 (numF A) i) ↔ isS cb s o i := by
  obtain ⟨r1, r2, r3, r4⟩ := hR hT
  have hl : s.Values.length = F.length := by rw [hs.l, hL.lf]
  have key : ∀ b : Bool, (∃ c ∈ (mapO (at0 (numF A)) (at0 (numF F)) o).Changes, c.Atom = at0 (numF A) i ∧ c.Add = b ∧ holdS cb (piS A F s) c.When) ↔ ∃ c ∈ o.Changes, c.Atom = i ∧ c.Add = b ∧ holdS cb s c.When := by
    intro b
    constructor
    · rintro ⟨c, hc, e1, e2, hh⟩
      obtain ⟨x, hx, rfl⟩ := List.mem_map.1 hc
      obtain ⟨hx1, hx2⟩ := List.mem_filter.1 hx
      have hX := ho.chg x hx1
      have hm := (at0_mk (A := A) hX.r0 (by rw [hL.la]; exact hX.r1)).1 (of_decide_eq_true hx2)
      have h3 := r3 x hx1 hm
      exact ⟨x, hx1, na_inj hm hi e1, e2, (hold_map (hs.rng hL.la) hl hX.w h3.1 h3.2).1 hh⟩
    · rintro ⟨x, hx, rfl, e2, hh⟩
      have hX := ho.chg x hx
      have h3 := r3 x hx hi
      exact ⟨mapH (at0 (numF A)) (at0 (numF F)) x, List.mem_map.2 ⟨x, List.mem_filter.2 ⟨hx, decide_eq_true (na_rng hi).1⟩, rfl⟩, rfl, e2, (hold_map (hs.rng hL.la) hl hX.w h3.1 h3.2).2 hh⟩
  unfold isS
  rw [key, key, mem_pi (hs.rng hL.la) hi]
theorem pi_true_mem (hr : ∀ i ∈ s.True, 0 ≤ i ∧ i < (A.length : Int)) {j : Int} : j ∈ (piS A F s).True ↔ ∃ i, i ∈ s.True ∧ Mk A i ∧ at0 (numF A) i = j := by
  unfold piS
  simp only [List.mem_map, List.mem_filter, decide_eq_true_eq]
  constructor
  · rintro ⟨i, ⟨hi, h0⟩, e⟩
    have := hr i hi
    exact ⟨i, hi, (at0_mk this.1 this.2).1 h0, e⟩
  · rintro ⟨i, hi, hm, e⟩
    exact ⟨i, ⟨hi, (na_rng hm).1⟩, e⟩
theorem pi_true_pw (hs : Asc s.True (A.length : Int)) : (piS A F s).True.Pairwise (· < ·) := by
  have : Asc (piS A F s).True (cnt A : Int) := by
    refine asc_map (hs.pw.sublist List.filter_sublist) fun x hx => ?_
    obtain ⟨hx1, hx2⟩ := List.mem_filter.1 hx
    have := hs.rng hx1
    exact (at0_mk this.1 this.2).1 (of_decide_eq_true hx2)
  exact this.pw
theorem next_map (hL : Least g A F) (hs : PropS g s) (ho : GOpOK (g.Atoms.length : Int) (g.Fluents.length : Int) o) (hc : canS cb g s o) (hT : Touch (Mk A) (Mk F) o) (hR : OpRule o (Mk A) (Mk F)) :
    nextS cb (simpG A F g).Atoms.length (piS A F s) (mapO (at0 (numF A)) (at0 (numF F)) o) = piS A F (nextS cb g.Atoms.length s o) := by
  have r4 := (hR hT).2.2.2
  have hl : s.Values.length = F.length := by rw [hs.l, hL.lf]
  have hp := next_prop ho hs hc
  have hln : (newV cb s.Values o.Assigns s.Values).length = F.length := by rw [newV_len, hl]
  have e1 : (nextS cb (simpG A F g).Atoms.length (piS A F s) (mapO (at0 (numF A)) (at0 (numF F)) o)).True = (piS A F (nextS cb g.Atoms.length s o)).True := by
    refine pw_ext ((idL_pw _).sublist List.filter_sublist) (pi_true_pw (by rw [hL.la]; exact hp.t)) fun j => ?_
    rw [pi_true_mem (hp.rng hL.la)]
    unfold nextS
    simp only [List.mem_filter, decide_eq_true_eq, idL_mem]
    have la : (simpG A F g).Atoms.length = cnt A := keepA_len hL
    rw [la]
    constructor
    · rintro ⟨⟨h0, h1⟩, hi⟩
      obtain ⟨i, hm, rfl⟩ := na_surj h0 h1
      have := mk_lt hm
      exact ⟨i, ⟨⟨this.1, by rw [← hL.la]; exact this.2⟩, (is_map hL hs ho hT hR hm).1 hi⟩, hm, rfl⟩
    · rintro ⟨i, ⟨_, hi⟩, hm, rfl⟩
      exact ⟨na_rng hm, (is_map hL hs ho hT hR hm).2 hi⟩
  have e2 : (nextS cb (simpG A F g).Atoms.length (piS A F s) (mapO (at0 (numF A)) (at0 (numF F)) o)).Values = (piS A F (nextS cb g.Atoms.length s o)).Values := by
    show newV cb (keep F s.Values) (o.Assigns.map (mapG (at0 (numF F)))) (keep F s.Values) = keep F (newV cb s.Values o.Assigns s.Values)
    have hk : (keep F s.Values).length = cnt F := keep_count hl
    apply List.ext_getElem?
    intro j
    by_cases hj : j < cnt F
    · obtain ⟨i, hm, hij⟩ := na_surj (A := F) (i := (j : Int)) (by omega) (by omega)
      have hjn : j = (at0 (numF F) i).toNat := by omega
      rw [hjn, keep_mk hln hm]
      by_cases h : ∃ a ∈ o.Assigns, a.Fluent = i
      · obtain ⟨a, ha, rfl⟩ := h
        rw [newV_hit _ _ _ (ass_pw ho.as) ha (by have := mk_lt hm; omega)]
        have hmap : (o.Assigns.map (mapG (at0 (numF F)))).Pairwise (fun a b => a.Fluent.toNat ≠ b.Fluent.toNat) := by
          refine List.pairwise_map.2 ((ass_pw ho.as).imp_of_mem fun {x y} hx hy hxy => ?_)
          intro e
          have h1 := na_rng (r4 x hx).1
          have h2 := na_rng (r4 y hy).1
          have : at0 (numF F) x.Fluent = at0 (numF F) y.Fluent := by
            have e' : (at0 (numF F) x.Fluent).toNat = (at0 (numF F) y.Fluent).toNat := e
            omega
          rw [na_inj (r4 x hx).1 (r4 y hy).1 this] at hxy
          exact hxy rfl
        have := newV_hit (cb := cb) (keep F s.Values) (a := mapG (at0 (numF F)) a) _ (keep F s.Values) hmap (List.mem_map.2 ⟨a, ha, rfl⟩) (by show (at0 (numF F) a.Fluent).toNat < _; omega)
        rw [show (mapG (at0 (numF F)) a).Fluent = at0 (numF F) a.Fluent from rfl] at this
        rw [this, show (mapG (at0 (numF F)) a).Value = mapE (at0 (numF F)) a.Value from rfl, val_map hl (ass_rng ho.as ha).2.2 (r4 a ha).2]
      · rw [newV_miss _ _ _ fun a ha e => ?_, newV_miss _ _ _ fun a ha e => ?_, keep_mk hl hm]
        · apply h
          have := (ass_rng ho.as ha).1
          have := hm.1
          exact ⟨a, ha, by omega⟩
        · obtain ⟨x, hx, rfl⟩ := List.mem_map.1 ha
          have h1 := na_rng (r4 x hx).1
          have e' : (at0 (numF F) x.Fluent).toNat = (at0 (numF F) i).toNat := e
          have h2 := na_rng hm
          exact h ⟨x, hx, na_inj (r4 x hx).1 hm (by omega)⟩
    · rw [List.getElem?_eq_none (by rw [newV_len]; omega), List.getElem?_eq_none (by rw [keep_count hln]; omega)]
  generalize nextS cb (simpG A F g).Atoms.length (piS A F s) (mapO (at0 (numF A)) (at0 (numF F)) o) = x at e1 e2
  generalize piS A F (nextS cb g.Atoms.length s o) = y at e1 e2
  cases x; cases y
  simp only at e1 e2
  rw [e1, e2]
open Classical in
/-- What touches nothing relevant changes nothing that stays. -/
theorem next_skip (hL : Least g A F) (hs : PropS g s) (ho : GOpOK (g.Atoms.length : Int) (g.Fluents.length : Int) o) (hT : ¬ Touch (Mk A) (Mk F) o) :
    piS A F (nextS cb g.Atoms.length s o) = piS A F s := by
  have hl : s.Values.length = F.length := by rw [hs.l, hL.lf]
  have hln : (newV cb s.Values o.Assigns s.Values).length = F.length := by rw [newV_len, hl]
  have e1 : (piS A F (nextS cb g.Atoms.length s o)).True = (piS A F s).True := by
    have hasc : Asc (nextS cb g.Atoms.length s o).True (A.length : Int) := asc_of_pw ((idL_pw _).sublist List.filter_sublist) fun x hx => by rw [hL.la]; exact idL_mem.1 (List.mem_filter.1 hx).1
    refine pw_ext (pi_true_pw hasc) (pi_true_pw (by rw [hL.la]; exact hs.t)) fun j => ?_
    rw [pi_true_mem fun i hi => hasc.rng hi, pi_true_mem (hs.rng hL.la)]
    refine exists_congr fun i => ?_
    constructor
    · rintro ⟨hi, hm, e⟩
      refine ⟨?_, hm, e⟩
      rcases of_decide_eq_true (List.mem_filter.1 hi).2 with ⟨c, hc, rfl, _⟩ | h
      · exact absurd (.inl ⟨c, hc, hm⟩) hT
      · exact h.1
    · rintro ⟨hi, hm, e⟩
      refine ⟨List.mem_filter.2 ⟨idL_mem.2 (hs.t.rng hi), decide_eq_true (.inr ⟨hi, ?_⟩)⟩, hm, e⟩
      rintro ⟨c, hc, rfl, _⟩
      exact hT (.inl ⟨c, hc, hm⟩)
  have e2 : (piS A F (nextS cb g.Atoms.length s o)).Values = (piS A F s).Values := by
    show keep F (newV cb s.Values o.Assigns s.Values) = keep F s.Values
    have hk : (keep F s.Values).length = cnt F := keep_count hl
    apply List.ext_getElem?
    intro j
    by_cases hj : j < cnt F
    · obtain ⟨i, hm, hij⟩ := na_surj (A := F) (i := (j : Int)) (by omega) (by omega)
      have hjn : j = (at0 (numF F) i).toNat := by omega
      rw [hjn, keep_mk hln hm, keep_mk hl hm]
      refine newV_miss _ _ _ fun a ha e => hT (.inr ⟨a, ha, ?_⟩)
      have := (ass_rng ho.as ha).1
      have := hm.1
      rw [show a.Fluent = i by omega]
      exact hm
    · rw [List.getElem?_eq_none (by rw [keep_count hln]; omega), List.getElem?_eq_none (by omega)]
  generalize piS A F (nextS cb g.Atoms.length s o) = x at e1 e2
  generalize piS A F s = y at e1 e2
  cases x; cases y
  simp only at e1 e2
  rw [e1, e2]
theorem can_alike {h : Ground} {x y : GOp} (ha : Alike x y) : canS cb h s x ↔ canS cb h s y := by
  unfold canS
  rw [ha.1, ha.2.2]
theorem next_alike {n : Nat} {x y : GOp} (ha : Alike x y) : nextS cb n s x = nextS cb n s y := by
  unfold nextS isS
  rw [ha.2.1, ha.2.2]
theorem goal_map (hv : ValidG g) (hL : Least g A F) (hs : PropS g s) : goalS cb (simpG A F g) (piS A F s) ↔ goalS cb g s := by
  have hl : s.Values.length = F.length := by rw [hs.l, hL.lf]
  unfold goalS
  constructor
  · rintro ⟨c, hc, hh⟩
    obtain ⟨x, hx, rfl⟩ := List.mem_map.1 hc
    have := hL.c.1 x hx
    exact ⟨x, hx, (hold_map (hs.rng hL.la) hl (hv.goal x hx) this.1 this.2).1 hh⟩
  · rintro ⟨x, hx, hh⟩
    have := hL.c.1 x hx
    exact ⟨_, List.mem_map.2 ⟨x, hx, rfl⟩, (hold_map (hs.rng hL.la) hl (hv.goal x hx) this.1 this.2).2 hh⟩
end
end Go.Pw
/-
  The reference's steps compute what a ground task means, in plain Lean.
-/
set_option maxHeartbeats 8000000
namespace Go.Pw
theorem combR_some (op : ByteArray) (a b : Int) : ∃ r, ref14_Combine_p op a b = some r := by
  unfold ref14_Combine_p
  by_cases h1 : op = ⟨#[45]⟩
  · rw [if_pos (decide_eq_true h1)]
    split <;> exact ⟨_, rfl⟩
  · rw [if_neg (by simpa using h1)]
    by_cases h2 : op = ⟨#[42]⟩
    · rw [if_pos (decide_eq_true h2)]
      by_cases h3 : max a (IntKind.i64.wrap (0 - a)) = 0
      · simp only [h3, decide_true, Bool.not_true, Bool.false_eq_true, if_false, Option.bind_some]
        split <;> exact ⟨_, rfl⟩
      · simp only [h3, decide_false, Bool.not_false, if_true, must, Option.bind_some]
        split
        · exact ⟨_, rfl⟩
        · split <;> exact ⟨_, rfl⟩
    · rw [if_neg (by simpa using h2)]
      split <;> exact ⟨_, rfl⟩
noncomputable def cbR (op : ByteArray) (a b : Int) : Int × Bool := (ref14_Combine_p op a b).getD (0, false)
theorem combR (op : ByteArray) (a b : Int) : ref14_Combine_p op a b = some (cbR op a b) := by
  obtain ⟨r, h⟩ := combR_some op a b
  unfold cbR
  rw [h]; rfl
section
variable {s : GState} {g : Ground} {fu : Nat}
theorem rval_ok : ∀ (fu : Nat) (e : GExpr), SizeOf.sizeOf e < fu → RE (s.Values.length : Int) e → ref18_Value_p fu s e = some (valS cbR s.Values e)
  | 0, e, h, _ => absurd h (Nat.not_lt_zero _)
  | fu + 1, e, h, hr => by
    cases hr with
    | num a b => rw [ref18_Value_p]; simp [valS]
    | flu a b =>
      rename_i N
      rw [ref18_Value_p]
      simp only
      rw [if_neg (by simp), if_pos (by simp), idx_int a]
      obtain ⟨x, hx⟩ := get_len (xs := s.Values) (i := N.toNat) (by omega)
      rw [valS, if_neg (by simp), if_pos rfl, hx]
      rfl
    | @bin op a b ho ha hb =>
      have sa := kid_size (e := ⟨op, 0, [a, b]⟩) (k := a) (by simp)
      have sb := kid_size (e := ⟨op, 0, [a, b]⟩) (k := b) (by simp)
      rw [ref18_Value_p, valS_bin cbR ho]
      simp only
      rw [if_neg (by rcases ho with h | h | h <;> subst h <;> simp), if_neg (by rcases ho with h | h | h <;> subst h <;> simp)]
      rw [show idx [a, b] 0 = some a from rfl, show idx [a, b] 1 = some b from rfl]
      simp only [Option.bind_some]
      rw [rval_ok fu a (by omega) ha, rval_ok fu b (by omega) hb]
      simp only [Option.bind_some, un2]
      generalize valS cbR s.Values a = x
      generalize valS cbR s.Values b = y
      obtain ⟨x1, x2⟩ := x
      obtain ⟨y1, y2⟩ := y
      cases x2 <;> cases y2 <;> simp [un2, combR]
open Classical in
theorem rtest_ok {t : GTest} (ht : TestOK (s.Values.length : Int) t) (h1 : SizeOf.sizeOf t.A < fu) (h2 : SizeOf.sizeOf t.B < fu) : ref18_Test_p fu s t = some (decide (testS cbR s.Values t)) := by
  obtain ⟨ho, ha, hb⟩ := ht
  unfold ref18_Test_p testS
  rw [rval_ok fu _ h1 ha, rval_ok fu _ h2 hb]
  simp only [Option.bind_some, un2]
  generalize valS cbR s.Values t.A = x
  generalize valS cbR s.Values t.B = y
  obtain ⟨x1, x2⟩ := x
  obtain ⟨y1, y2⟩ := y
  have hc : (bif (decide (t.Op = (⟨#[60]⟩ : ByteArray))) then ((decide (x1 < y1)) || (bif (decide (t.Op = (⟨#[60, 61]⟩ : ByteArray))) then ((decide (x1 ≤ y1)) || ((decide (t.Op = (⟨#[61]⟩ : ByteArray))) && decide (x1 = y1))) else ((decide (t.Op = (⟨#[61]⟩ : ByteArray))) && decide (x1 = y1)))) else (bif (decide (t.Op = (⟨#[60, 61]⟩ : ByteArray))) then ((decide (x1 ≤ y1)) || ((decide (t.Op = (⟨#[61]⟩ : ByteArray))) && decide (x1 = y1))) else ((decide (t.Op = (⟨#[61]⟩ : ByteArray))) && decide (x1 = y1)))) = decide (cmpS t.Op x1 y1) := by
    unfold cmpS
    rcases ho with h | h | h <;> rw [h] <;> simp
  simp only
  rw [hc]
  congr 1
  cases x2 <;> cases y2 <;> simp
open Classical in
theorem rhold_ok {na : Int} {c : Cond} (hc : CondOK na (s.Values.length : Int) c) (hl : LenC c) (ht : s.True.length ≤ 9223372036854775807) (hs : SizeOf.sizeOf c ≤ fu) : ref18_Holds_p fu s c = some (decide (holdS cbR s c)) := by
  unfold ref18_Holds_p
  rw [ctl_whileP (xs := c.Pos) (r := false) (fun i => i ∈ s.True)]
  rotate_left
  · intro i x hx
    have hi := (List.getElem?_eq_some_iff.1 hx).1
    rw [if_pos (lt_len hx)]
    simp only [idx_nat, hx, Option.bind_some, in_ok ht, wrap_succ hi hl.p]
    by_cases h : x ∈ s.True <;> simp [h]
  · rw [if_neg (not_lt_len _)]
  by_cases h1 : ∀ i ∈ c.Pos, i ∈ s.True
  rotate_left
  · rw [if_neg h1, decide_eq_false (fun h => h1 h.1)]
  rw [if_pos h1, ctl_whileP (xs := c.Neg) (r := false) (fun i => i ∉ s.True)]
  rotate_left
  · intro i x hx
    have hi := (List.getElem?_eq_some_iff.1 hx).1
    rw [if_pos (lt_len hx)]
    simp only [idx_nat, hx, Option.bind_some, in_ok ht, wrap_succ hi hl.n]
    by_cases h : x ∈ s.True <;> simp [h]
  · rw [if_neg (not_lt_len _)]
  by_cases h2 : ∀ i ∈ c.Neg, i ∉ s.True
  rotate_left
  · rw [if_neg h2, decide_eq_false (fun h => h2 h.2.1)]
  rw [if_pos h2, ctl_whileP (xs := c.Tests) (r := false) (fun t => testS cbR s.Values t)]
  rotate_left
  · intro i x hx
    have hi := (List.getElem?_eq_some_iff.1 hx).1
    have hm := List.mem_of_getElem? hx
    have hz := test_size hm
    rw [if_pos (lt_len hx)]
    simp only [idx_nat, hx, Option.bind_some, rtest_ok (fu := fu) (hc.t x hm) (by omega) (by omega), wrap_succ hi hl.t]
    by_cases h : testS cbR s.Values x <;> simp [h]
  · rw [if_neg (not_lt_len _)]
  by_cases h3 : ∀ t ∈ c.Tests, testS cbR s.Values t
  · rw [if_pos h3, decide_eq_true (show holdS cbR s c from ⟨h1, h2, h3⟩)]
  · rw [if_neg h3, decide_eq_false (fun h => h3 h.2.2)]
theorem PropS.len (hs : PropS g s) : s.True.length ≤ g.Atoms.length := hs.t.len_le
open Classical in
theorem rcan_ok {o : GOp} {i : Nat} (hv : ValidG g) (hl : LenG g) (hp : PropS g s) (hs : SizeOf.sizeOf g ≤ fu) (hi : g.Ops[i]? = some o) : law19_Can_p fu g s (i : Int) = some (decide (canS cbR g s o)) := by
  have hm := List.mem_of_getElem? hi
  have hz := op_size hm
  have hpz := pre_size o
  have ho := hv.op o hm
  have hlo := hl.op o hm
  have ht := hp.len
  have hva := hv.a
  unfold law19_Can_p
  simp only [idx_nat, hi, Option.bind_some]
  rw [rhold_ok (by rw [hp.l]; exact ho.pre) hlo.pre (by omega) (by omega)]
  simp only [Option.bind_some]
  by_cases h1 : holdS cbR s o.Pre
  rotate_left
  · rw [decide_eq_false (fun h : canS cbR g s o => h1 h.1)]; simp [h1]
  simp only [h1, decide_true, Bool.not_true, Bool.false_eq_true, if_false]
  rw [ctl_whileP (xs := o.Assigns) (r := false) (fun a => (valS cbR s.Values a.Value).2 = true ∧ ∀ f, g.Fluents[a.Fluent.toNat]? = some f → f.Lo ≤ (valS cbR s.Values a.Value).1 ∧ (valS cbR s.Values a.Value).1 ≤ f.Hi)]
  rotate_left
  · intro k a ha
    have hk := (List.getElem?_eq_some_iff.1 ha).1
    have hma := List.mem_of_getElem? ha
    have hza := value_size hma
    have hr := ass_rng ho.as hma
    obtain ⟨f, hf⟩ := get_len (xs := g.Fluents) (i := a.Fluent.toNat) (by omega)
    rw [if_pos (lt_len ha)]
    simp only [idx_nat, ha, Option.bind_some]
    rw [rval_ok fu a.Value (by omega) (by rw [hp.l]; exact hr.2.2), idx_int hr.1, hf, wrap_succ hk hlo.as]
    simp only [Option.bind_some, un2]
    generalize valS cbR s.Values a.Value = v
    obtain ⟨v1, v2⟩ := v
    cases v2 with
    | false => simp
    | true =>
      by_cases h3 : v1 < f.Lo
      · have : ¬ (f.Lo ≤ v1 ∧ v1 ≤ f.Hi) := by omega
        simp [h3]
        intro h; omega
      · by_cases h4 : f.Hi < v1
        · simp [h3, h4]
        · have h5 : f.Lo ≤ v1 ∧ v1 ≤ f.Hi := by omega
          simp [h3, h4, h5]
  · rw [if_neg (not_lt_len _)]
  by_cases h2 : ∀ a ∈ o.Assigns, (valS cbR s.Values a.Value).2 = true ∧ ∀ f, g.Fluents[a.Fluent.toNat]? = some f → f.Lo ≤ (valS cbR s.Values a.Value).1 ∧ (valS cbR s.Values a.Value).1 ≤ f.Hi
  · rw [if_pos h2, decide_eq_true (show canS cbR g s o from ⟨h1, h2⟩)]
  · rw [if_neg h2, decide_eq_false (fun h : canS cbR g s o => h2 h.2)]
open Classical in
theorem rgoal_ok (hv : ValidG g) (hl : LenG g) (hp : PropS g s) (hs : SizeOf.sizeOf g ≤ fu) : ref18_Goal_p fu g s = some (decide (goalS cbR g s)) := by
  have ht := hp.len
  have hva := hv.a
  unfold ref18_Goal_p
  rw [ctl_whileP (xs := g.Goal) (r := true) (fun c => ¬ holdS cbR s c)]
  rotate_left
  · intro i x hx
    have hi := (List.getElem?_eq_some_iff.1 hx).1
    have hm := List.mem_of_getElem? hx
    have hz := goal_size hm
    rw [if_pos (lt_len hx)]
    simp only [idx_nat, hx, Option.bind_some]
    rw [rhold_ok (by rw [hp.l]; exact hv.goal x hm) (hl.goal x hm) (by omega) (by omega), wrap_succ hi hl.gl]
    by_cases h : holdS cbR s x <;> simp [h]
  · rw [if_neg (not_lt_len _)]
  by_cases h : ∀ c ∈ g.Goal, ¬ holdS cbR s c
  · rw [if_pos h, decide_eq_false]
    rintro ⟨c, hc, hh⟩
    exact h c hc hh
  · rw [if_neg h, decide_eq_true]
    apply Classical.byContradiction
    intro hn
    exact h fun c hc hh => hn ⟨c, hc, hh⟩
theorem rinit_ok (hv : ValidG g) (hl : LenG g) : ref18_Initial_p g = some (initS g) := by
  have h1 := hv.i.len_le
  have h2 := hv.a
  have h3 := hv.f
  unfold ref18_Initial_p
  rw [app_ok (by simp; omega)]
  simp only [Option.bind_some, List.nil_append]
  rw [while_map g.Fluents (fun f => f.Init)]
  · rfl
  · intro i x hx
    have hi := (List.getElem?_eq_some_iff.1 hx).1
    have hle := List.length_take_le i g.Fluents
    simp only [un2]
    rw [if_pos (lt_len hx)]
    simp only [idx_nat, hx, Option.bind_some]
    rw [app_ok (by rw [List.length_map]; simp only [List.length_cons, List.length_nil]; omega), wrap_succ hi hl.f]
    rfl
  · intro q
    simp only [un2]
    rw [if_neg (not_lt_len _)]
open Classical in
theorem rstate_ok {a b : GState} (h1 : a.True.length ≤ 9223372036854775807) (h2 : a.Values.length ≤ 9223372036854775807) : ref18_SameState_p a b = some (decide (a = b)) := by
  unfold ref18_SameState_p
  rw [rints_ok h1, rints_ok h2]
  obtain ⟨p, q⟩ := a
  obtain ⟨p', q'⟩ := b
  by_cases e1 : p = p'
  · by_cases e2 : q = q' <;> simp [e1, e2]
  · simp [e1]
open Classical in
theorem rnext_ok {o : GOp} {i : Nat} (hv : ValidG g) (hl : LenG g) (hp : PropS g s) (hs : SizeOf.sizeOf g ≤ fu) (hi : g.Ops[i]? = some o) : ref18_Next_p fu g s (i : Int) = some (nextS cbR g.Atoms.length s o) := by
  have hm := List.mem_of_getElem? hi
  have hz := op_size hm
  have ho := hv.op o hm
  have hlo := hl.op o hm
  have ht := hp.len
  have hva := hv.a
  have hvf := hv.f
  have hpl := hp.l
  unfold ref18_Next_p
  simp only [idx_nat, hi, Option.bind_some]
  -- one pass over the changes
  have pass : ∀ {R β : Type} (b : Bool) (j : Int) (is : Bool) {kr : R → Option β} {k : Bool × Int → Option β},
      ctl (whileC (R := R) (un2 fun (is101 : Bool) (k100 : Int) => if decide (k100 < (o.Changes.length : Int)) then ((idx o.Changes k100).bind fun x101 =>
        (if decide (x101.Atom = j) then (if (x101.Add == b) then ((ref18_Holds_p fu s x101.When).bind <| fun (y101 : Bool) => some y101) else (some false)) else (some false)).bind (fun (z101 : Bool) => (if z101 then (some x101.Add) else (some is101)).bind (fun (is102 : Bool) => some (Ctl.next (is102, IntKind.i64.wrap (k100 + 1))))))
        else (some (Ctl.brk (is101, k100)))) (is, 0)) kr k = k (if ∃ c ∈ o.Changes, c.Atom = j ∧ c.Add = b ∧ holdS cbR s c.When then b else is, (o.Changes.length : Int)) := by
    intro R β b j is kr k
    rw [while_run (fun n => (if ∃ c ∈ o.Changes.take n, c.Atom = j ∧ c.Add = b ∧ holdS cbR s c.When then b else is, (n : Int))) o.Changes.length (by simp)]
    · simp
    · intro n hn
      obtain ⟨c, hc⟩ := get_len hn
      have hcm := List.mem_of_getElem? hc
      have hcz := when_size hcm
      have hC := ho.chg c hcm
      simp only [un2]
      rw [if_pos (lt_len hc)]
      simp only [idx_nat, hc, Option.bind_some]
      rw [rhold_ok (by rw [hpl]; exact hC.w) (hlo.whn c hcm) (by omega) (by omega), wrap_succ hn hlo.ch]
      have hsn : (∃ c_1 ∈ o.Changes.take (n + 1), c_1.Atom = j ∧ c_1.Add = b ∧ holdS cbR s c_1.When) ↔ (∃ c_1 ∈ o.Changes.take n, c_1.Atom = j ∧ c_1.Add = b ∧ holdS cbR s c_1.When) ∨ (c.Atom = j ∧ c.Add = b ∧ holdS cbR s c.When) := by
        rw [take_snoc hc]
        constructor
        · rintro ⟨x, hx, q⟩
          rcases List.mem_append.1 hx with hx | hx
          · exact .inl ⟨x, hx, q⟩
          · simp only [List.mem_singleton] at hx; subst hx; exact .inr q
        · rintro (⟨x, hx, q⟩ | q)
          · exact ⟨x, by simp [hx], q⟩
          · exact ⟨c, by simp, q⟩
      by_cases e : c.Atom = j ∧ c.Add = b ∧ holdS cbR s c.When
      · rw [if_pos (hsn.2 (.inr e))]
        obtain ⟨e1, e2, e3⟩ := e
        simp [e1, e2, e3]
      · have : (∃ c_1 ∈ o.Changes.take (n + 1), c_1.Atom = j ∧ c_1.Add = b ∧ holdS cbR s c_1.When) ↔ ∃ c_1 ∈ o.Changes.take n, c_1.Atom = j ∧ c_1.Add = b ∧ holdS cbR s c_1.When := by rw [hsn]; exact ⟨fun h => h.elim id fun h => absurd h e, .inl⟩
        simp only [this]
        by_cases e1 : c.Atom = j
        · by_cases e2 : c.Add = b
          · have e3 : ¬ holdS cbR s c.When := fun e3 => e ⟨e1, e2, e3⟩
            simp [e1, e2, e3]
          · have e2' : (c.Add == b) = false := by simp [e2]
            simp [e1, e2']
        · simp [e1]
    · simp only [un2]
      rw [if_neg (not_lt_len _)]
  rw [while_run (fun j => ((j : Int), ((idL g.Atoms.length).take j).filter fun i => decide (isS cbR s o i))) g.Atoms.length (by simp)]
  rotate_left
  · intro j hj
    simp only [un2]
    rw [if_pos (decide_eq_true (by omega)), in_ok (by omega)]
    simp only [Option.bind_some]
    rw [while_run (fun n => (if n = 0 then decide ((j : Int) ∈ s.True) else if n = 1 then (if ∃ c ∈ o.Changes, c.Atom = (j : Int) ∧ c.Add = false ∧ holdS cbR s c.When then false else decide ((j : Int) ∈ s.True)) else decide (isS cbR s o (j : Int)), (n : Int))) 2 (by simp)]
    rotate_left
    · intro n hn
      simp only [un2]
      rw [if_pos (decide_eq_true (by omega))]
      rw [pass (decide ((n : Int) = 1)) (j : Int)]
      simp only [un2]
      rw [wrap_succ hn (by omega)]
      congr 3
      rcases (show n = 0 ∨ n = 1 by omega) with rfl | rfl
      · simp
      · simp only [isS]
        by_cases e1 : ∃ c ∈ o.Changes, c.Atom = (j : Int) ∧ c.Add = true ∧ holdS cbR s c.When
        · simp [e1]
        · by_cases e2 : ∃ c ∈ o.Changes, c.Atom = (j : Int) ∧ c.Add = false ∧ holdS cbR s c.When
          · simp [e1, e2]
          · simp [e1, e2]
    · simp only [un2]
      rw [if_neg (by simp)]
    simp only [un2]
    have hk := take_snoc (idL_get hj)
    have hlen := List.length_filter_le (fun i => decide (isS cbR s o i)) ((idL g.Atoms.length).take j)
    have hlt := List.length_take_le j (idL g.Atoms.length)
    rw [hk, List.filter_append, wrap_succ hj hl.a]
    by_cases e : isS cbR s o (j : Int)
    · simp only [e, decide_true, if_true, show (2 : Nat) ≠ 0 by decide, show (2 : Nat) ≠ 1 by decide, if_false]
      rw [app_ok (by simp only [List.length_cons, List.length_nil]; omega)]
      simp [e]
    · simp [e]
  · simp only [un2]
    rw [if_neg (by simp)]
  simp only [un2]
  rw [app_ok (by simp; omega)]
  simp only [Option.bind_some, List.nil_append]
  rw [while_run (fun n => ((n : Int), newV cbR s.Values (o.Assigns.take n) s.Values)) o.Assigns.length (by simp [newV])]
  rotate_left
  · intro n hn
    obtain ⟨a, ha⟩ := get_len hn
    have ham := List.mem_of_getElem? ha
    have haz := value_size ham
    have hr := ass_rng ho.as ham
    have hln := newV_len (cb := cbR) s.Values (o.Assigns.take n) s.Values
    obtain ⟨x, hx⟩ := get_len (xs := newV cbR s.Values (o.Assigns.take n) s.Values) (i := a.Fluent.toNat) (by omega)
    simp only [un2]
    rw [if_pos (lt_len ha)]
    simp only [idx_nat, ha, Option.bind_some]
    rw [rval_ok fu a.Value (by omega) (by rw [hpl]; exact hr.2.2)]
    simp only [Option.bind_some, un2]
    rw [idx_int hr.1, hx, setI_int hr.1 (by omega), wrap_succ hn hlo.as, take_snoc ha]
    simp only [Option.bind_some]
    congr 3
    unfold newV
    rw [List.foldl_append]
    rfl
  · simp only [un2]
    rw [if_neg (not_lt_len _)]
  simp only [un2]
  rw [List.take_length, List.take_of_length_le (by rw [idL_len]; exact Nat.le_refl _)]
  rfl
end
end Go.Pw
/-
  How many proper states there are, in plain Lean.
-/
set_option maxHeartbeats 8000000
namespace Go.Pw
theorem pigeon {α : Type} : ∀ {l k : List α}, l.Pairwise (fun a b => a ≠ b) → (∀ x ∈ l, x ∈ k) → l.length ≤ k.length
  | [], k, _, _ => Nat.zero_le _
  | x :: l, k, h, hs => by
    obtain ⟨h1, h2⟩ := List.pairwise_cons.1 h
    obtain ⟨k1, k2, rfl⟩ := List.append_of_mem (hs x (by simp))
    have := pigeon (l := l) (k := k1 ++ k2) h2 fun y hy => by
      have := hs y (by simp [hy])
      simp only [List.mem_append, List.mem_cons] at this ⊢
      rcases this with q | rfl | q
      · exact .inl q
      · exact absurd rfl (h1 _ hy)
      · exact .inr q
    simp only [List.length_append, List.length_cons] at this ⊢
    omega
/-- All ascending lists of numbers below n. -/
def allT : Nat → List (List Int)
  | 0 => [[]]
  | n + 1 => allT n ++ (allT n).map fun l => l ++ [(n : Int)]
theorem allT_len : ∀ n, (allT n).length = 2 ^ n
  | 0 => rfl
  | n + 1 => by rw [allT, List.length_append, List.length_map, allT_len n, Nat.pow_succ]; omega
theorem allT_mem : ∀ (n : Nat) {l : List Int}, l.Pairwise (· < ·) → (∀ x ∈ l, 0 ≤ x ∧ x < (n : Int)) → l ∈ allT n
  | 0, l, _, h => by
    have : l = [] := by
      cases l with
      | nil => rfl
      | cons x l => have := h x (by simp); omega
    subst this
    simp [allT]
  | n + 1, l, hp, h => by
    have hf := filter_step hp (n : Int)
    have hall : l.filter (fun x => decide (x < (n : Int) + 1)) = l := List.filter_eq_self.2 fun x hx => decide_eq_true (by have := (h x hx).2; omega)
    rw [hall] at hf
    have hrec := allT_mem n (l := l.filter fun x => decide (x < (n : Int))) (hp.sublist List.filter_sublist) fun x hx => by
      obtain ⟨h1, h2⟩ := List.mem_filter.1 hx
      exact ⟨(h x h1).1, of_decide_eq_true h2⟩
    rw [allT, List.mem_append, List.mem_map]
    by_cases hn : (n : Int) ∈ l
    · rw [if_pos hn] at hf
      exact .inr ⟨_, hrec, hf.symm⟩
    · rw [if_neg hn, List.append_nil] at hf
      rw [hf]
      exact .inl hrec
def sizeF (f : GFluent) : Nat := (f.Hi - f.Lo + 1).toNat
def sizeN : List GFluent → Nat
  | [] => 1
  | f :: fs => sizeF f * sizeN fs
def prodL {α β γ : Type} (f : α → β → γ) (ys : List β) : List α → List γ
  | [] => []
  | x :: xs => ys.map (f x) ++ prodL f ys xs
theorem prodL_len {α β γ : Type} (f : α → β → γ) (ys : List β) : ∀ xs, (prodL f ys xs).length = xs.length * ys.length
  | [] => by simp [prodL]
  | x :: xs => by rw [prodL, List.length_append, List.length_map, prodL_len f ys xs, List.length_cons, Nat.succ_mul]; omega
theorem prodL_mem {α β γ : Type} {f : α → β → γ} {ys : List β} {x : α} {y : β} (hy : y ∈ ys) : ∀ {xs}, x ∈ xs → f x y ∈ prodL f ys xs
  | [], h => by simp at h
  | z :: xs, h => by
    rw [prodL, List.mem_append]
    rcases List.mem_cons.1 h with rfl | h
    · exact .inl (List.mem_map.2 ⟨y, hy, rfl⟩)
    · exact .inr (prodL_mem hy h)
/-- All values of fluents. -/
def allV : List GFluent → List (List Int)
  | [] => [[]]
  | f :: fs => prodL (fun (v : Int) l => v :: l) (allV fs) ((List.range (sizeF f)).map fun (k : Nat) => f.Lo + (k : Int))
theorem allV_len : ∀ fs, (allV fs).length = sizeN fs
  | [] => rfl
  | f :: fs => by rw [allV, prodL_len, List.length_map, List.length_range, allV_len fs]; rfl
theorem allV_mem : ∀ (fs : List GFluent) {V : List Int}, V.length = fs.length → (∀ (i : Nat) f v, fs[i]? = some f → V[i]? = some v → f.Lo ≤ v ∧ v ≤ f.Hi) → V ∈ allV fs
  | [], V, hl, _ => by
    cases V with
    | nil => simp [allV]
    | cons x V => simp at hl
  | f :: fs, [], hl, _ => by simp at hl
  | f :: fs, v :: V, hl, h => by
    have h0 := h 0 f v rfl rfl
    have hrec := allV_mem fs (V := V) (by simpa using hl) fun i f v h1 h2 => h (i + 1) f v (by simpa using h1) (by simpa using h2)
    rw [allV]
    refine prodL_mem (f := fun (v : Int) l => v :: l) hrec (List.mem_map.2 ⟨(v - f.Lo).toNat, List.mem_range.2 ?_, ?_⟩)
    · unfold sizeF; omega
    · omega
def statesN (g : Ground) : Nat := 2 ^ g.Atoms.length * sizeN g.Fluents
theorem states_count {g : Ground} {l : List GState} (hd : l.Pairwise fun a b => a ≠ b) (hp : ∀ s ∈ l, PropS g s) : l.length ≤ statesN g := by
  have := pigeon (k := prodL (fun t v => (⟨t, v⟩ : GState)) (allV g.Fluents) (allT g.Atoms.length)) hd fun s hs => by
    have h := hp s hs
    obtain ⟨t, v⟩ := s
    exact prodL_mem (f := fun t v => (⟨t, v⟩ : GState)) (allV_mem _ h.l h.r) (allT_mem _ h.t.pw fun x hx => h.t.rng hx)
  rwa [prodL_len, allT_len, allV_len] at this
theorem sizeN_snoc (f : GFluent) : ∀ fs, sizeN (fs ++ [f]) = sizeN fs * sizeF f
  | [] => by simp [sizeN]
  | x :: fs => by rw [List.cons_append, sizeN, sizeN, sizeN_snoc f fs, Nat.mul_assoc]
theorem min_step {P : Nat} {m : Nat} (hm : 1 ≤ m) (hm2 : m ≤ 64) {n : Int} (hn : n = min (P : Int) 2000) : min (IntKind.i64.wrap (n * (m : Int))) 2000 = min ((P * m : Nat) : Int) 2000 := by
  have h0 : 0 ≤ n ∧ n ≤ 2000 := by omega
  have h1 : 0 ≤ n * (m : Int) ∧ n * (m : Int) ≤ 128000 := by
    constructor
    · exact Int.mul_nonneg h0.1 (by omega)
    · have a1 : n * (m : Int) ≤ 2000 * (m : Int) := Int.mul_le_mul_of_nonneg_right h0.2 (by omega)
      omega
  rw [wrap_id (by omega) (by omega)]
  by_cases hP : (P : Int) ≤ 2000
  · have : n = (P : Int) := by omega
    rw [this, Int.natCast_mul]
  · have hn2 : n = 2000 := by omega
    have h2 : (2000 : Int) ≤ n * (m : Int) := by
      rw [hn2]
      omega
    have h3 : (2000 : Int) ≤ ((P * m : Nat) : Int) := by
      have : P * 1 ≤ P * m := Nat.mul_le_mul_left _ hm
      omega
    omega
theorem states_tot {g : Ground} (hl : LenG g) : ∃ r, law19_states_p g = some r := by
  have : Ok (law19_states_p g) fun _ => True := by
    unfold law19_states_p
    refine Ok.whileM g.Atoms.length (fun _ _ => True) (fun _ => True) (fun _ => False) trivial ?_ (fun _ h => h.elim) fun q _ => ?_
    · intro j n hj _
      simp only [un2]
      by_cases h : j < g.Atoms.length
      · rw [if_pos (decide_eq_true (by omega))]
        exact Ok.ret ⟨h, wrap_succ h hl.a, trivial⟩
      · rw [if_neg (by simp; omega)]
        exact Ok.ret trivial
    · obtain ⟨n, i⟩ := q
      simp only [un2]
      refine Ok.whileM g.Fluents.length (fun _ _ => True) (fun _ => True) (fun _ => False) trivial ?_ (fun _ h => h.elim) fun q _ => Ok.ret trivial
      intro j n hj _
      simp only [un2]
      by_cases h : j < g.Fluents.length
      · obtain ⟨f, hf⟩ := get_len h
        rw [if_pos (decide_eq_true (by omega))]
        simp only [idx_nat, hf, Option.bind_some]
        exact Ok.ret ⟨h, wrap_succ h hl.f, trivial⟩
      · rw [if_neg (by simp; omega)]
        exact Ok.ret trivial
  obtain ⟨r, h, _⟩ := this
  exact ⟨r, h⟩
theorem states_ok {g : Ground} (hv : ValidG g) (hl : LenG g) : law19_states_p g = some (min (statesN g : Int) 2000) := by
  unfold law19_states_p
  rw [while_run (fun j => (min ((2 ^ j : Nat) : Int) 2000, (j : Int))) g.Atoms.length (by simp; decide)]
  rotate_left
  · intro j hj
    simp only [un2]
    rw [if_pos (decide_eq_true (by omega)), wrap_succ hj hl.a, Nat.pow_succ, ← min_step (P := 2 ^ j) (m := 2) (by omega) (by omega) rfl, Int.mul_comm]
    rfl
  · simp only [un2]
    rw [if_neg (by simp)]
  simp only [un2]
  rw [while_run (fun j => (min ((2 ^ g.Atoms.length * sizeN (g.Fluents.take j) : Nat) : Int) 2000, (j : Int))) g.Fluents.length (by simp [sizeN])]
  · rw [List.take_length]; rfl
  · intro j hj
    obtain ⟨f, hf⟩ := get_len hj
    obtain ⟨h1, h2, h3, h4, h5⟩ := hv.flu f (List.mem_of_getElem? hf)
    simp only [un2]
    rw [if_pos (lt_len hf)]
    simp only [idx_nat, hf, Option.bind_some]
    rw [wrap_succ hj hl.f, wrap_id (n := f.Hi - f.Lo) (by omega) (by omega), wrap_id (n := f.Hi - f.Lo + 1) (by omega) (by omega), take_snoc hf, sizeN_snoc, ← Nat.mul_assoc,
      show f.Hi - f.Lo + 1 = (sizeF f : Int) by unfold sizeF; omega, min_step (P := 2 ^ g.Atoms.length * sizeN (g.Fluents.take j)) (m := sizeF f) (by unfold sizeF; omega) (by unfold sizeF; omega) rfl]
  · simp only [un2]
    rw [if_neg (not_lt_len _)]
/-! ### the simplified task has no more states -/
theorem sizeN_keep {F : List Bool} : ∀ {j : Nat} {fs : List GFluent}, fs.length = F.length → (∀ f ∈ fs, 1 ≤ sizeF f) → j ≤ fs.length → sizeN (keepTo F fs j) ≤ sizeN (fs.take j)
  | 0, fs, _, _, _ => by simp [keepTo, sizeN]
  | j + 1, fs, hl, h1, hj => by
    obtain ⟨f, hf⟩ := get_len (xs := fs) (i := j) (by omega)
    have ih := sizeN_keep (j := j) hl h1 (by omega)
    rw [keepTo_succ hf, take_snoc hf, sizeN_snoc]
    have := h1 f (List.mem_of_getElem? hf)
    by_cases hb : F[j]? = some true
    · rw [if_pos hb, sizeN_snoc]; exact Nat.mul_le_mul_right _ ih
    · rw [if_neg hb, List.append_nil]
      refine Nat.le_trans ih ?_
      have := Nat.mul_le_mul_left (sizeN (fs.take j)) this
      omega
theorem statesN_simp {g : Ground} {A F : List Bool} (hv : ValidG g) (hL : Least g A F) : statesN (simpG A F g) ≤ statesN g := by
  unfold statesN
  have h1 : (simpG A F g).Atoms.length ≤ g.Atoms.length := keepTo_le A g.Atoms g.Atoms.length
  have h2 : sizeN (simpG A F g).Fluents ≤ sizeN g.Fluents := by
    have := sizeN_keep (F := F) (fs := g.Fluents) (j := g.Fluents.length) (by rw [hL.lf]) (fun f hf => by
      obtain ⟨_, h2, h3, _⟩ := hv.flu f hf
      unfold sizeF; omega) (Nat.le_refl _)
    rw [List.take_length] at this
    exact this
  exact Nat.mul_le_mul (Nat.pow_le_pow_right (by omega) h1) h2
end Go.Pw
/-
  The least cost of a plan: what the law's search finds, and that the simplified task has the same, in plain Lean.
-/
set_option maxHeartbeats 8000000
namespace Go.Pw
/-- What is touched has one alike that stays and costs no more. -/
theorem stay_cheap {T : List Bool} {M : List GOp} (hc : ∀ x ∈ M, 0 ≤ x.Cost) : ∀ (n i : Nat) (x : GOp), M[i]? = some x → T[i]? = some true → x.Cost.toNat * (M.length + 1) + i < n → ∃ (j : Nat) (y : GOp), (stayL T M)[j]? = some true ∧ M[j]? = some y ∧ Alike x y ∧ y.Cost ≤ x.Cost
  | 0, i, x, _, _, h => absurd h (Nat.not_lt_zero _)
  | n + 1, i, x, hx, hi, h => by
    by_cases hb : ∃ j, T[j]? = some true ∧ Beats M j i
    · obtain ⟨j, hj, x', y, hx', hy, hne, hlt, ha⟩ := hb
      rw [hx] at hx'; cases hx'
      have hjl := (List.getElem?_eq_some_iff.1 hy).1
      have c1 := hc x (List.mem_of_getElem? hx)
      have c2 := hc y (List.mem_of_getElem? hy)
      have hle : y.Cost ≤ x.Cost := by omega
      have hm : y.Cost.toNat * (M.length + 1) + j < x.Cost.toNat * (M.length + 1) + i := by
        rcases hlt with hlt | ⟨hlt, hji⟩
        · have h1 : (y.Cost.toNat + 1) * (M.length + 1) ≤ x.Cost.toNat * (M.length + 1) := Nat.mul_le_mul_right _ (by omega)
          rw [Nat.succ_mul] at h1
          omega
        · rw [hlt]; omega
      obtain ⟨k, z, hk, hz, ha2, hc2⟩ := stay_cheap hc n j y hy hj (by omega)
      exact ⟨k, z, hk, hz, ha.trans ha2, Int.le_trans hc2 hle⟩
    · exact ⟨i, x, (stayL_get (List.getElem?_eq_some_iff.1 hx).1).2 ⟨hi, hb⟩, hx, Alike.refl x, Int.le_refl _⟩
section
variable (cb : ByteArray → Int → Int → Int × Bool) (g : Ground)
/-- States and what a run to them costs. -/
inductive ReachS : GState → Int → Prop
  | init : ReachS (initS g) 0
  | step {s : GState} {c : Int} {i : Nat} {o : GOp} : ReachS s c → g.Ops[i]? = some o → canS cb g s o → ReachS (nextS cb g.Atoms.length s o) (c + o.Cost)
structure IsBest (B : Int) : Prop where
  le : B ≤ 1125899906842624
  lb : ∀ s c, ReachS cb g s c → goalS cb g s → B ≤ c
  ex : B = 1125899906842624 ∨ ∃ s, ReachS cb g s B ∧ goalS cb g s
end
section
variable {cb : ByteArray → Int → Int → Int × Bool} {g : Ground} {A F : List Bool} {s : GState} {c : Int}
theorem ReachS.prop (hv : ValidG g) (h : ReachS cb g s c) : PropS g s ∧ 0 ≤ c := by
  induction h with
  | init => exact ⟨init_prop hv, Int.le_refl _⟩
  | step h1 h2 h3 ih =>
    have ho := hv.op _ (List.mem_of_getElem? h2)
    have := ho.c0
    exact ⟨next_prop ho ih.1 h3, by have := ih.2; omega⟩
/-- An operator's place in the simplified task. -/
theorem stays_at {i : Nat} {o : GOp} (hv : ValidG g) (hi : g.Ops[i]? = some o) (hT : Touch (Mk A) (Mk F) o) : ∃ (k : Nat) (y : GOp), (simpG A F g).Ops[k]? = some y ∧ Alike (mapO (at0 (numF A)) (at0 (numF F)) o) y ∧ y.Cost ≤ o.Cost := by
  obtain ⟨j, y, hj, hy, ha, hc⟩ := stay_cheap (mapL_cost (A := A) (F := F) hv) _ i _ (map_get hi) ((tou_get hi).2 hT) (Nat.lt_succ_self _)
  exact ⟨_, y, keep_get (by unfold staL; rw [stayL_len]) hj hy, ha, hc⟩
theorem reach_to (hv : ValidG g) (hL : Least g A F) (h : ReachS cb g s c) : ∃ c', c' ≤ c ∧ ReachS cb (simpG A F g) (piS A F s) c' := by
  induction h with
  | init => exact ⟨0, Int.le_refl _, by rw [pi_init]; exact .init⟩
  | @step s c i o h1 h2 h3 ih =>
    obtain ⟨c', hle, hr⟩ := ih
    have hm := List.mem_of_getElem? h2
    have ho := hv.op o hm
    have hp := (h1.prop hv).1
    by_cases hT : Touch (Mk A) (Mk F) o
    · obtain ⟨k, y, hk, ha, hc⟩ := stays_at hv h2 hT
      have hR := hL.c.2 o hm
      have hcan : canS cb (simpG A F g) (piS A F s) y := (can_alike ha).1 ((can_map hL hp ho hT hR).2 h3)
      have := ReachS.step hr hk hcan
      rw [← next_alike ha, next_map hL hp ho h3 hT hR] at this
      exact ⟨_, by omega, this⟩
    · refine ⟨c', by have := ho.c0; omega, ?_⟩
      rw [next_skip hL hp ho hT]
      exact hr
theorem sta_at {k : Nat} {y : GOp} (h : (simpG A F g).Ops[k]? = some y) : ∃ (i : Nat) (o : GOp), g.Ops[i]? = some o ∧ Touch (Mk A) (Mk F) o ∧ y = mapO (at0 (numF A)) (at0 (numF F)) o := by
  obtain ⟨i, o, h1, h2, _, h4⟩ := sta_mem (List.mem_of_getElem? h)
  exact ⟨i, o, h1, h2, h4⟩
theorem reach_from (hv : ValidG g) (hL : Least g A F) {t : GState} (h : ReachS cb (simpG A F g) t c) : ∃ s, ReachS cb g s c ∧ piS A F s = t := by
  induction h with
  | init => exact ⟨initS g, .init, pi_init⟩
  | @step t c k y h1 h2 h3 ih =>
    obtain ⟨s, hs, rfl⟩ := ih
    obtain ⟨i, o, hi, hT, rfl⟩ := sta_at h2
    have hm := List.mem_of_getElem? hi
    have ho := hv.op o hm
    have hp := (hs.prop hv).1
    have hR := hL.c.2 o hm
    have hc := (can_map hL hp ho hT hR).1 h3
    exact ⟨_, (show ReachS cb g _ (_ + o.Cost) from .step hs hi hc), (next_map hL hp ho hc hT hR).symm⟩
theorem best_same {B B' : Int} (hv : ValidG g) (hL : Least g A F) (h1 : IsBest cb g B) (h2 : IsBest cb (simpG A F g) B') : B = B' := by
  have le1 : B ≤ B' := by
    rcases h2.ex with e | ⟨t, ht, hg⟩
    · rw [e]; exact h1.le
    · obtain ⟨s, hs, rfl⟩ := reach_from hv hL ht
      exact h1.lb s _ hs ((goal_map hv hL (hs.prop hv).1).1 hg)
  have le2 : B' ≤ B := by
    rcases h1.ex with e | ⟨s, hs, hg⟩
    · rw [e]; exact h2.le
    · obtain ⟨c', hle, hr⟩ := reach_to hv hL hs
      exact Int.le_trans (h2.lb _ _ hr ((goal_map hv hL (hs.prop hv).1).2 hg)) hle
  omega
end
/-! ### the law's search -/
open Classical in
noncomputable def lowS (t : GState) (c : Int) (e : law19_found) : law19_found := if e.s = t then { e with cost := min e.cost c } else e
theorem lowS_s (t : GState) (c : Int) (e : law19_found) : (lowS t c e).s = e.s := by unfold lowS; split <;> rfl
theorem lowS_le (t : GState) (c : Int) (e : law19_found) : (lowS t c e).cost ≤ e.cost := by
  unfold lowS; split
  · exact Int.min_le_left _ _
  · exact Int.le_refl _
theorem lowS_id {t : GState} {c : Int} {e : law19_found} (h : e.s = t → e.cost ≤ c) : lowS t c e = e := by
  unfold lowS
  split
  · rename_i he
    have := h he
    rw [Int.min_eq_left this]
  · rfl
open Classical in
noncomputable def stepL (t : GState) (c : Int) (l : List law19_found) : List law19_found := if ∃ e ∈ l, e.s = t then l.map (lowS t c) else l ++ [⟨t, c⟩]
def muL (l : List law19_found) : Nat := (l.map fun e => e.cost.toNat).sum + (131 - l.length) * 137363456
theorem sum_low (t : GState) (c : Int) : ∀ l : List law19_found, (∀ e ∈ l, 0 ≤ e.cost) → 0 ≤ c → ((l.map (lowS t c)).map fun e => e.cost.toNat).sum ≤ (l.map fun e => e.cost.toNat).sum ∧ ((∃ e ∈ l, e.s = t ∧ c < e.cost) → ((l.map (lowS t c)).map fun e => e.cost.toNat).sum < (l.map fun e => e.cost.toNat).sum)
  | [], _, _ => by simp
  | x :: l, h, hc => by
    obtain ⟨h1, h2⟩ := sum_low t c l (fun e he => h e (by simp [he])) hc
    have hx := lowS_le t c x
    have hx0 := h x (by simp)
    simp only [List.map_cons, List.sum_cons]
    refine ⟨by omega, ?_⟩
    rintro ⟨e, he, hs, hlt⟩
    rcases List.mem_cons.1 he with rfl | he
    · have : (lowS t c e).cost = c := by unfold lowS; rw [if_pos hs]; exact Int.min_eq_right (by omega)
      omega
    · have := h2 ⟨e, he, hs, hlt⟩
      omega
structure LI (g : Ground) (l : List law19_found) : Prop where
  r : ∀ e ∈ l, ReachS cbR g e.s e.cost
  d : l.Pairwise fun a b => a.s ≠ b.s
  z : ∃ e ∈ l, e.s = initS g ∧ e.cost = 0
  b : ∀ (k : Nat) e, l[k]? = some e → e.cost ≤ (k : Int) * 1048576
def ClosedTo (g : Ground) (l : List law19_found) (i op : Nat) : Prop := ∀ (i' : Nat) e, l[i']? = some e → ∀ (op' : Nat) o, g.Ops[op']? = some o → (i' < i ∨ i' = i ∧ op' < op) → canS cbR g e.s o → ∃ e' ∈ l, e'.s = nextS cbR g.Atoms.length e.s o ∧ e'.cost ≤ e.cost + o.Cost
section
variable {g : Ground} {l : List law19_found} {fu : Nat}
theorem LI.len (hv : ValidG g) (hN : statesN g ≤ 130) (h : LI g l) : l.length ≤ 130 := by
  have := states_count (g := g) (l := l.map fun e => e.s) (List.pairwise_map.2 h.d) fun s hs => by
    obtain ⟨e, he, rfl⟩ := List.mem_map.1 hs
    exact ((h.r e he).prop hv).1
  rw [List.length_map] at this
  omega
theorem stepL_eq {t : GState} {c : Int} (h : ¬ ∃ e ∈ l, e.s = t) : stepL t c l = l ++ [⟨t, c⟩] := by unfold stepL; rw [if_neg h]
theorem step_LI {i op : Nat} {e : law19_found} {o : GOp} (hv : ValidG g) (h : LI g l) (hi : l[i]? = some e) (ho : g.Ops[op]? = some o) (hc : canS cbR g e.s o) : LI g (stepL (nextS cbR g.Atoms.length e.s o) (e.cost + o.Cost) l) := by
  have hr := ReachS.step (h.r e (List.mem_of_getElem? hi)) ho hc
  have hO := hv.op o (List.mem_of_getElem? ho)
  have hil := (List.getElem?_eq_some_iff.1 hi).1
  have hb := h.b i e hi
  have h0 := (hr.prop hv).2
  by_cases hk : ∃ x ∈ l, x.s = nextS cbR g.Atoms.length e.s o
  · unfold stepL
    rw [if_pos hk]
    refine ⟨fun x hx => ?_, ?_, ?_, fun k x hx => ?_⟩
    · obtain ⟨y, hy, rfl⟩ := List.mem_map.1 hx
      have hy' := h.r y hy
      unfold lowS
      split
      · rename_i hs
        rcases Int.le_total y.cost (e.cost + o.Cost) with q | q
        · rw [Int.min_eq_left q]; exact hy'
        · rw [Int.min_eq_right q]
          show ReachS cbR g y.s _
          rw [hs]; exact hr
      · exact hy'
    · exact List.pairwise_map.2 (h.d.imp fun {a b} hab => by rw [lowS_s, lowS_s]; exact hab)
    · obtain ⟨z, hz, e1, e2⟩ := h.z
      refine ⟨lowS _ _ z, List.mem_map.2 ⟨z, hz, rfl⟩, by rw [lowS_s, e1], ?_⟩
      unfold lowS
      split
      · show min z.cost _ = 0
        omega
      · exact e2
    · rw [List.getElem?_map] at hx
      obtain ⟨y, hy, rfl⟩ := Option.map_eq_some_iff.1 hx
      exact Int.le_trans (lowS_le _ _ _) (h.b k y hy)
  · rw [stepL_eq hk]
    refine ⟨fun x hx => ?_, ?_, ?_, fun k x hx => ?_⟩
    · rcases List.mem_append.1 hx with hx | hx
      · exact h.r x hx
      · simp only [List.mem_singleton] at hx; subst hx; exact hr
    · refine List.pairwise_append.2 ⟨h.d, by simp, fun a ha b hb => ?_⟩
      simp only [List.mem_singleton] at hb
      subst hb
      exact fun q => hk ⟨a, ha, q⟩
    · obtain ⟨z, hz, q⟩ := h.z
      exact ⟨z, List.mem_append_left _ hz, q⟩
    · by_cases hkl : k < l.length
      · rw [List.getElem?_append_left hkl] at hx
        exact h.b k x hx
      · have hk2 := (List.getElem?_eq_some_iff.1 hx).1
        simp only [List.length_append, List.length_cons, List.length_nil] at hk2
        obtain rfl : k = l.length := by omega
        rw [List.getElem?_append_right (Nat.le_refl _), Nat.sub_self] at hx
        simp only [List.getElem?_cons_zero, Option.some.injEq] at hx
        subst hx
        show e.cost + o.Cost ≤ _
        have := hO.c1
        omega
theorem step_mu {i op : Nat} {e : law19_found} {o : GOp} (hv : ValidG g) (hN : statesN g ≤ 130) (h : LI g l) (hi : l[i]? = some e) (ho : g.Ops[op]? = some o) (hc : canS cbR g e.s o) :
    muL (stepL (nextS cbR g.Atoms.length e.s o) (e.cost + o.Cost) l) ≤ muL l ∧ ((∃ x ∈ l, x.s = nextS cbR g.Atoms.length e.s o ∧ e.cost + o.Cost < x.cost) → muL (stepL (nextS cbR g.Atoms.length e.s o) (e.cost + o.Cost) l) < muL l) := by
  have hr := ReachS.step (h.r e (List.mem_of_getElem? hi)) ho hc
  have hO := hv.op o (List.mem_of_getElem? ho)
  have hil := (List.getElem?_eq_some_iff.1 hi).1
  have hb := h.b i e hi
  have h0 := (hr.prop hv).2
  have hlen := h.len hv hN
  have h2 := hO.c1
  by_cases hk : ∃ x ∈ l, x.s = nextS cbR g.Atoms.length e.s o
  · unfold stepL muL
    rw [if_pos hk, List.length_map]
    have := sum_low (nextS cbR g.Atoms.length e.s o) (e.cost + o.Cost) l (fun x hx => ((h.r x hx).prop hv).2) h0
    exact ⟨by omega, fun q => by have := this.2 q; omega⟩
  · rw [stepL_eq hk]
    have key : muL (l ++ [⟨nextS cbR g.Atoms.length e.s o, e.cost + o.Cost⟩]) < muL l := by
      unfold muL
      simp only [List.map_append, List.sum_append, List.map_cons, List.map_nil, List.sum_cons, List.sum_nil, List.length_append, List.length_cons, List.length_nil]
      omega
    exact ⟨by omega, fun _ => key⟩
theorem step_closed {i op : Nat} {e : law19_found} {o : GOp} (h : ClosedTo g l i op) (hi : l[i]? = some e) (ho : g.Ops[op]? = some o) (hlow : ¬ ∃ x ∈ l, x.s = nextS cbR g.Atoms.length e.s o ∧ e.cost + o.Cost < x.cost) :
    ClosedTo g (stepL (nextS cbR g.Atoms.length e.s o) (e.cost + o.Cost) l) i (op + 1) := by
  have hil := (List.getElem?_eq_some_iff.1 hi).1
  have hsame : l.map (lowS (nextS cbR g.Atoms.length e.s o) (e.cost + o.Cost)) = l := map_id_on fun x hx => lowS_id fun q => by
    apply Classical.byContradiction
    intro hn
    exact hlow ⟨x, hx, q, by omega⟩
  have hsub : ∀ x ∈ l, x ∈ stepL (nextS cbR g.Atoms.length e.s o) (e.cost + o.Cost) l := fun x hx => by
    unfold stepL
    split
    · rw [hsame]; exact hx
    · exact List.mem_append_left _ hx
  have hget : ∀ k, k < l.length → (stepL (nextS cbR g.Atoms.length e.s o) (e.cost + o.Cost) l)[k]? = l[k]? := fun k hk => by
    unfold stepL
    split
    · rw [hsame]
    · rw [List.getElem?_append_left hk]
  intro i' e' he' op' o' ho' hlt hcan
  rw [hget i' (by omega)] at he'
  by_cases hnew : i' = i ∧ op' = op
  · obtain ⟨rfl, rfl⟩ := hnew
    rw [hi] at he'; cases he'
    rw [ho] at ho'; cases ho'
    by_cases hk : ∃ x ∈ l, x.s = nextS cbR g.Atoms.length e.s o
    · obtain ⟨x, hx, q⟩ := hk
      refine ⟨x, hsub x hx, q, ?_⟩
      apply Classical.byContradiction
      intro hn
      exact hlow ⟨x, hx, q, by omega⟩
    · rw [stepL_eq hk]
      exact ⟨⟨nextS cbR g.Atoms.length e.s o, e.cost + o.Cost⟩, List.mem_append_right _ (List.mem_singleton.2 rfl), rfl, Int.le_refl _⟩
  · obtain ⟨x, hx, q⟩ := h i' e' he' op' o' ho' (by omega) hcan
    exact ⟨x, hsub x hx, q⟩
open Classical in
/-- One look at all that is known. -/
theorem scan_ok {R β : Type} {t : GState} {c : Int} {ch : Bool} (hl : l.length ≤ 9223372036854775807) (hp : ∀ e ∈ l, e.s.True.length ≤ 9223372036854775807 ∧ e.s.Values.length ≤ 9223372036854775807) {kr : R → Option β} {k : Bool × Bool × Int × List law19_found → Option β} :
    ctl (whileC (R := R) (un4 fun (changed103 : Bool) (known100 : Bool) (k100 : Int) (l103 : (List law19_found)) => if decide (k100 < (l103.length : Int)) then ((idx l103 k100).bind fun x102 =>
      (ref18_SameState_p x102.s t).bind <| fun (y103 : Bool) =>
      (if y103 then ((setI l103 k100 ({ x102 with cost := min x102.cost c } : law19_found)).bind fun l104 =>
      some ((changed103 || decide (c < x102.cost)), true, l104))
      else (some (changed103, known100, l103))).bind (un3 fun (changed104 : Bool) (known101 : Bool) (l105 : (List law19_found)) => some (Ctl.next (changed104, known101, IntKind.i64.wrap (k100 + 1), l105))))
      else (some (Ctl.brk (changed103, known100, k100, l103)))) (ch, false, 0, l)) kr k = k (ch || decide (∃ e ∈ l, e.s = t ∧ c < e.cost), decide (∃ e ∈ l, e.s = t), (l.length : Int), l.map (lowS t c)) := by
  rw [while_run (fun j => (ch || decide (∃ e ∈ l.take j, e.s = t ∧ c < e.cost), decide (∃ e ∈ l.take j, e.s = t), (j : Int), (l.take j).map (lowS t c) ++ l.drop j)) l.length (by simp)]
  · simp
  · intro j hj
    obtain ⟨x, hx⟩ := get_len hj
    have hxm := List.mem_of_getElem? hx
    have hlen : ((l.take j).map (lowS t c)).length = j := by simp; omega
    have hdrop : l.drop j = x :: l.drop (j + 1) := by
      obtain ⟨_, rfl⟩ := List.getElem?_eq_some_iff.1 hx
      exact List.drop_eq_getElem_cons hj
    have hget : ((l.take j).map (lowS t c) ++ l.drop j)[j]? = some x := by
      rw [List.getElem?_append_right (by omega), hlen, Nat.sub_self, hdrop]; rfl
    have htot : ((l.take j).map (lowS t c) ++ l.drop j).length = l.length := by simp; omega
    simp only [un4]
    rw [if_pos (decide_eq_true (by rw [htot]; omega))]
    simp only [idx_nat, hget, Option.bind_some]
    rw [rstate_ok (hp x hxm).1 (hp x hxm).2, wrap_succ hj hl, take_snoc hx]
    have e1 : (∃ e ∈ l.take j ++ [x], e.s = t ∧ c < e.cost) ↔ (∃ e ∈ l.take j, e.s = t ∧ c < e.cost) ∨ (x.s = t ∧ c < x.cost) := by simp [or_and_right, exists_or]
    have e2 : (∃ e ∈ l.take j ++ [x], e.s = t) ↔ (∃ e ∈ l.take j, e.s = t) ∨ x.s = t := by simp [or_and_right, exists_or]
    simp only [e1, e2]
    by_cases hs : x.s = t
    · have hset : setI ((l.take j).map (lowS t c) ++ l.drop j) (j : Int) ({ x with cost := min x.cost c } : law19_found) = some ((l.take j ++ [x]).map (lowS t c) ++ l.drop (j + 1)) := by
        rw [setI_nat (by rw [htot]; omega), List.set_append_right _ _ (by omega), hlen, Nat.sub_self, hdrop]
        simp [lowS, hs]
      rw [decide_eq_true hs, Option.bind_some, if_pos rfl, hset]
      simp only [Option.bind_some, un3]
      by_cases h1 : ∃ e ∈ l.take j, e.s = t ∧ c < e.cost
      · simp [h1, hs]
      · by_cases h2 : c < x.cost <;> simp [h1, h2, hs]
    · have hsame : (l.take j ++ [x]).map (lowS t c) ++ l.drop (j + 1) = (l.take j).map (lowS t c) ++ l.drop j := by
        rw [hdrop, List.map_append, List.append_assoc]
        simp [lowS, hs]
      rw [hsame]
      simp [hs, un3]
  · simp only [un4]
    rw [if_neg (by simp)]
end
end Go.Pw
/-
  The law's search finds the least cost of a plan; SimplifyCosts, in plain Lean.
-/
set_option maxHeartbeats 8000000
namespace Go.Pw
section
variable {g : Ground} {l : List law19_found} {fu : Nat}
theorem LI.start (hv : ValidG g) : LI g [⟨initS g, 0⟩] := by
  refine ⟨fun e he => ?_, by simp, ⟨_, List.mem_singleton.2 rfl, rfl, rfl⟩, fun k e he => ?_⟩
  · simp only [List.mem_singleton] at he; subst he; exact .init
  · have := (List.getElem?_eq_some_iff.1 he).1
    simp only [List.length_cons, List.length_nil] at this
    obtain rfl : k = 0 := by omega
    simp only [List.getElem?_cons_zero, Option.some.injEq] at he
    subst he
    simp
theorem LI.lens (hv : ValidG g) (h : LI g l) : ∀ e ∈ l, PropS g e.s ∧ e.s.True.length ≤ 9223372036854775807 ∧ e.s.Values.length ≤ 9223372036854775807 := fun e he => by
  have hp := ((h.r e he).prop hv).1
  have h1 := hp.len
  have h2 := hp.l
  have h3 := hv.a
  have h4 := hv.f
  exact ⟨hp, by omega, by omega⟩
theorem stepL_len (t : GState) (c : Int) (l : List law19_found) : l.length ≤ (stepL t c l).length := by
  unfold stepL
  split
  · simp
  · simp
open Classical in
/-- All operators at one state. -/
theorem ops_ok {R β : Type} {Q : β → Prop} (hv : ValidG g) (hl : LenG g) (hN : statesN g ≤ 130) (hs : SizeOf.sizeOf g ≤ fu) {l0 : List law19_found} {i : Nat} {ch : Bool} (h0 : LI g l0) (hi0 : i < l0.length) (hcl : ch = false → ClosedTo g l0 i 0)
    {kr : R → Option β} {k : Bool × Int × List law19_found → Option β}
    (hk : ∀ ch' l, LI g l → i < l.length → muL l ≤ muL l0 → (ch' = true → ch = true ∨ muL l < muL l0) → (ch' = false → ClosedTo g l i g.Ops.length) → Ok (k (ch', (g.Ops.length : Int), l)) Q) :
    Ok (ctl (whileC (R := R) (un3 fun (changed102 : Bool) (op100 : Int) (l102 : (List law19_found)) => if decide (op100 < (g.Ops.length : Int)) then ((idx l102 (i : Int)).bind fun x100 =>
      (law19_Can_p fu g x100.s op100).bind <| fun (y101 : Bool) =>
      if !y101 then (some (Ctl.next (changed102, IntKind.i64.wrap (op100 + 1), l102)))
      else ((idx g.Ops op100).bind fun x101 =>
      (ref18_Next_p fu g x100.s op100).bind <| fun (y102 : GState) =>
      ctl (whileC (R := R) (un4 fun (changed103 : Bool) (known100 : Bool) (k100 : Int) (l103 : (List law19_found)) => if decide (k100 < (l103.length : Int)) then ((idx l103 k100).bind fun x102 =>
      (ref18_SameState_p x102.s y102).bind <| fun (y103 : Bool) =>
      (if y103 then ((setI l103 k100 ({ x102 with cost := min x102.cost (IntKind.i64.wrap (x100.cost + x101.Cost)) } : law19_found)).bind fun l104 =>
      some ((changed103 || decide ((IntKind.i64.wrap (x100.cost + x101.Cost)) < x102.cost)), true, l104))
      else (some (changed103, known100, l103))).bind (un3 fun (changed104 : Bool) (known101 : Bool) (l105 : (List law19_found)) => some (Ctl.next (changed104, known101, IntKind.i64.wrap (k100 + 1), l105))))
      else (some (Ctl.brk (changed103, known100, k100, l103)))) (changed102, false, 0, l102)) (fun r => some (Ctl.ret r)) (un4 fun (changed105 : Bool) (known102 : Bool) (k101 : Int) (l106 : (List law19_found)) => (if !known102 then ((app 56 l106 [(⟨y102, IntKind.i64.wrap (x100.cost + x101.Cost)⟩ : law19_found)]).bind fun l107 =>
      some l107)
      else (some l106)).bind (fun (l108 : (List law19_found)) => some (Ctl.next (changed105, IntKind.i64.wrap (op100 + 1), l108))))))
      else (some (Ctl.brk (changed102, op100, l102)))) (ch, 0, l0)) kr k) Q := by
  have hn := hv.o
  refine Ok.while (fun q : Bool × Int × List law19_found => ∃ op : Nat, q.2.1 = (op : Int) ∧ op ≤ g.Ops.length ∧ LI g q.2.2 ∧ i < q.2.2.length ∧ muL q.2.2 ≤ muL l0 ∧ (q.1 = true → ch = true ∨ muL q.2.2 < muL l0) ∧ (q.1 = false → ClosedTo g q.2.2 i op))
    (fun q => q.2.1 = (g.Ops.length : Int) ∧ LI g q.2.2 ∧ i < q.2.2.length ∧ muL q.2.2 ≤ muL l0 ∧ (q.1 = true → ch = true ∨ muL q.2.2 < muL l0) ∧ (q.1 = false → ClosedTo g q.2.2 i g.Ops.length)) (fun _ => False) (fun q => g.Ops.length - q.2.1.toNat)
    ⟨0, rfl, Nat.zero_le _, h0, hi0, Nat.le_refl _, fun h => .inl h, hcl⟩ ?_ (fun _ h => h.elim) ?_
  · rintro ⟨ch1, op', l1⟩ ⟨op, hop, hle, hL, hi, hmu, hch, hcl1⟩
    simp only at hop hL hi hmu hch hcl1
    subst hop
    by_cases hlt : op < g.Ops.length
    · obtain ⟨o, ho⟩ := get_len hlt
      obtain ⟨e, he⟩ := get_len hi
      have hem := List.mem_of_getElem? he
      obtain ⟨hp, _⟩ := hL.lens hv e hem
      have hO := hv.op o (List.mem_of_getElem? ho)
      have hlen := hL.len hv hN
      simp only [un3]
      rw [if_pos (lt_len ho)]
      simp only [idx_nat, he, ho, Option.bind_some]
      rw [rcan_ok hv hl hp hs ho, wrap_succ hlt hl.o]
      simp only [Option.bind_some]
      by_cases hc : canS cbR g e.s o
      · have hr := ReachS.step (hL.r e hem) ho hc
        have hc0 := (hr.prop hv).2
        have hb := hL.b i e he
        have hpn := (hr.prop hv).1
        have hw : IntKind.i64.wrap (e.cost + o.Cost) = e.cost + o.Cost := by
          have := hO.c1
          have := hpn.len
          exact wrap_id (by omega) (by omega)
        simp only [hc, decide_true, Bool.not_true, Bool.false_eq_true, if_false]
        rw [rnext_ok hv hl hp hs ho, hw]
        simp only [Option.bind_some]
        rw [scan_ok (l := l1) (by omega) fun x hx => (hL.lens hv x hx).2]
        simp only [un4]
        have hstep : (if (!decide (∃ x ∈ l1, x.s = nextS cbR g.Atoms.length e.s o)) = true then ((app 56 (l1.map (lowS (nextS cbR g.Atoms.length e.s o) (e.cost + o.Cost))) [(⟨nextS cbR g.Atoms.length e.s o, e.cost + o.Cost⟩ : law19_found)]).bind fun l107 => some l107) else some (l1.map (lowS (nextS cbR g.Atoms.length e.s o) (e.cost + o.Cost)))) = some (stepL (nextS cbR g.Atoms.length e.s o) (e.cost + o.Cost) l1) := by
          by_cases hk : ∃ x ∈ l1, x.s = nextS cbR g.Atoms.length e.s o
          · rw [decide_eq_true hk]
            unfold stepL
            rw [if_pos hk]; rfl
          · rw [decide_eq_false hk, stepL_eq hk, if_pos (show (!false) = true from rfl), map_id_on fun x hx => lowS_id fun q => absurd ⟨x, hx, q⟩ hk, app_ok (by simp only [List.length_cons, List.length_nil]; omega)]
            rfl
        rw [hstep]
        refine ⟨_, rfl, fun s' q => ?_, fun s' q => (by cases q), fun r q => (by cases q)⟩
        cases q
        have hsm := step_mu hv hN hL he ho hc
        have hsl := stepL_len (nextS cbR g.Atoms.length e.s o) (e.cost + o.Cost) l1
        refine ⟨⟨op + 1, rfl, by omega, step_LI hv hL he ho hc, by simp only; omega, by simp only; omega, fun hq => ?_, fun hq => ?_⟩, ?_⟩
        · simp only [Bool.or_eq_true, decide_eq_true_eq] at hq
          rcases hq with hq | hq
          · rcases hch hq with h | h
            · exact .inl h
            · exact .inr (by simp only; omega)
          · have := hsm.2 hq
            exact .inr (by simp only; omega)
        · simp only [Bool.or_eq_false_iff, decide_eq_false_iff_not] at hq
          exact step_closed (hcl1 hq.1) he ho hq.2
        · simp only; omega
      · simp only [hc, decide_false, Bool.not_false, if_true]
        refine ⟨_, rfl, fun s' q => ?_, fun s' q => (by cases q), fun r q => (by cases q)⟩
        cases q
        refine ⟨⟨op + 1, rfl, by omega, hL, hi, hmu, hch, fun hq => ?_⟩, by simp only; omega⟩
        intro i' e' he' op' o' ho' hlt' hcan
        by_cases hnew : i' = i ∧ op' = op
        · obtain ⟨rfl, rfl⟩ := hnew
          rw [he] at he'; cases he'
          rw [ho] at ho'; cases ho'
          exact absurd hcan hc
        · exact hcl1 hq i' e' he' op' o' ho' (by omega) hcan
    · obtain rfl : op = g.Ops.length := by omega
      refine ⟨.brk (ch1, (g.Ops.length : Int), l1), ?_, fun s' e => (by cases e), fun s' e => ?_, fun r e => (by cases e)⟩
      · simp only [un3]
        rw [if_neg (by simp)]
      · cases e
        exact ⟨rfl, hL, hi, hmu, hch, hcl1⟩
  · rintro ⟨ch1, op', l1⟩ ⟨hop, hL, hi, hmu, hch, hcl1⟩
    simp only at hop hL hi hmu hch hcl1
    subst hop
    exact hk ch1 l1 hL hi hmu hch hcl1
open Classical in
/-- One pass over all that is known. -/
theorem pass_ok {R β : Type} {Q : β → Prop} (hv : ValidG g) (hl : LenG g) (hN : statesN g ≤ 130) (hs : SizeOf.sizeOf g ≤ fu) {l0 : List law19_found} (h0 : LI g l0)
    {kr : R → Option β} {k : Bool × Int × List law19_found → Option β}
    (hk : ∀ ch l, LI g l → muL l ≤ muL l0 → (ch = true → muL l < muL l0) → (ch = false → ClosedTo g l l.length 0) → Ok (k (ch, (l.length : Int), l)) Q) :
    Ok (ctl (whileC (R := R) (un3 fun (changed101 : Bool) (i100 : Int) (l101 : (List law19_found)) => if decide (i100 < (l101.length : Int)) then (ctl (whileC (R := R) (un3 fun (changed102 : Bool) (op100 : Int) (l102 : (List law19_found)) => if decide (op100 < (g.Ops.length : Int)) then ((idx l102 i100).bind fun x100 =>
      (law19_Can_p fu g x100.s op100).bind <| fun (y101 : Bool) =>
      if !y101 then (some (Ctl.next (changed102, IntKind.i64.wrap (op100 + 1), l102)))
      else ((idx g.Ops op100).bind fun x101 =>
      (ref18_Next_p fu g x100.s op100).bind <| fun (y102 : GState) =>
      ctl (whileC (R := R) (un4 fun (changed103 : Bool) (known100 : Bool) (k100 : Int) (l103 : (List law19_found)) => if decide (k100 < (l103.length : Int)) then ((idx l103 k100).bind fun x102 =>
      (ref18_SameState_p x102.s y102).bind <| fun (y103 : Bool) =>
      (if y103 then ((setI l103 k100 ({ x102 with cost := min x102.cost (IntKind.i64.wrap (x100.cost + x101.Cost)) } : law19_found)).bind fun l104 =>
      some ((changed103 || decide ((IntKind.i64.wrap (x100.cost + x101.Cost)) < x102.cost)), true, l104))
      else (some (changed103, known100, l103))).bind (un3 fun (changed104 : Bool) (known101 : Bool) (l105 : (List law19_found)) => some (Ctl.next (changed104, known101, IntKind.i64.wrap (k100 + 1), l105))))
      else (some (Ctl.brk (changed103, known100, k100, l103)))) (changed102, false, 0, l102)) (fun r => some (Ctl.ret r)) (un4 fun (changed105 : Bool) (known102 : Bool) (k101 : Int) (l106 : (List law19_found)) => (if !known102 then ((app 56 l106 [(⟨y102, IntKind.i64.wrap (x100.cost + x101.Cost)⟩ : law19_found)]).bind fun l107 =>
      some l107)
      else (some l106)).bind (fun (l108 : (List law19_found)) => some (Ctl.next (changed105, IntKind.i64.wrap (op100 + 1), l108))))))
      else (some (Ctl.brk (changed102, op100, l102)))) (changed101, 0, l101)) (fun r => some (Ctl.ret r)) (un3 fun (changed106 : Bool) (op101 : Int) (l109 : (List law19_found)) => some (Ctl.next (changed106, IntKind.i64.wrap (i100 + 1), l109))))
      else (some (Ctl.brk (changed101, i100, l101)))) (false, 0, l0)) kr k) Q := by
  refine Ok.while (fun q : Bool × Int × List law19_found => ∃ i : Nat, q.2.1 = (i : Int) ∧ i ≤ q.2.2.length ∧ LI g q.2.2 ∧ muL q.2.2 ≤ muL l0 ∧ (q.1 = true → muL q.2.2 < muL l0) ∧ (q.1 = false → ClosedTo g q.2.2 i 0))
    (fun q => q.2.1 = (q.2.2.length : Int) ∧ LI g q.2.2 ∧ muL q.2.2 ≤ muL l0 ∧ (q.1 = true → muL q.2.2 < muL l0) ∧ (q.1 = false → ClosedTo g q.2.2 q.2.2.length 0)) (fun _ => False) (fun q => 131 - q.2.1.toNat)
    ⟨0, rfl, Nat.zero_le _, h0, Nat.le_refl _, fun h => (by cases h), fun _ i' e he op' o ho h => (by omega)⟩ ?_ (fun _ h => h.elim) ?_
  · rintro ⟨ch1, i', l1⟩ ⟨i, hie, hle, hL, hmu, hch, hcl⟩
    simp only at hie hle hL hmu hch hcl
    subst hie
    have hlen := hL.len hv hN
    by_cases hlt : i < l1.length
    · have key := ops_ok (R := R) (kr := fun r => some (Ctl.ret r)) (k := un3 fun (changed106 : Bool) (op101 : Int) (l109 : (List law19_found)) => some (Ctl.next (changed106, IntKind.i64.wrap ((i : Int) + 1), l109)))
        (Q := fun c : Ctl (Bool × Int × List law19_found) R => ∃ ch2 l2, c = .next (ch2, ((i + 1 : Nat) : Int), l2) ∧ LI g l2 ∧ i < l2.length ∧ muL l2 ≤ muL l1 ∧ (ch2 = true → ch1 = true ∨ muL l2 < muL l1) ∧ (ch2 = false → ClosedTo g l2 i g.Ops.length)) hv hl hN hs hL hlt hcl
        (fun ch' l a b c d e => Ok.ret ⟨ch', l, by rw [wrap_succ hlt (by omega)], a, b, c, d, e⟩)
      obtain ⟨c, hc, ch2, l2, rfl, hL2, hi2, hm2, hch2, hcl2⟩ := key
      have hlen2 := hL2.len hv hN
      refine ⟨.next (ch2, ((i + 1 : Nat) : Int), l2), ?_, fun s' e => ?_, fun s' e => (by cases e), fun r e => (by cases e)⟩
      · simp only [un3]
        rw [if_pos (decide_eq_true (by omega))]
        exact hc
      · cases e
        refine ⟨⟨i + 1, rfl, by simp only; omega, hL2, by simp only; omega, fun hq => ?_, fun hq => ?_⟩, by simp only; omega⟩
        · simp only
          rcases hch2 hq with q | q
          · have := hch q; omega
          · omega
        · intro i' e he op' o ho hlt' hcan
          have hopl := (List.getElem?_eq_some_iff.1 ho).1
          exact hcl2 hq i' e he op' o ho (by omega) hcan
    · obtain rfl : i = l1.length := by omega
      refine ⟨.brk (ch1, (l1.length : Int), l1), ?_, fun s' e => (by cases e), fun s' e => ?_, fun r e => (by cases e)⟩
      · simp only [un3]
        rw [if_neg (by simp)]
      · cases e
        exact ⟨rfl, hL, hmu, hch, hcl⟩
  · rintro ⟨ch1, i', l1⟩ ⟨hie, hL, hmu, hch, hcl⟩
    simp only at hie hL hmu hch hcl
    subst hie
    exact hk ch1 l1 hL hmu hch hcl
theorem closed_reach {l : List law19_found} (h : LI g l) (hcl : ClosedTo g l l.length 0) {s : GState} {c : Int} (hr : ReachS cbR g s c) : ∃ e ∈ l, e.s = s ∧ e.cost ≤ c := by
  induction hr with
  | init =>
    obtain ⟨e, he, h1, h2⟩ := h.z
    exact ⟨e, he, h1, by omega⟩
  | @step s c i o _ h2 h3 ih =>
    obtain ⟨e, he, rfl, hle⟩ := ih
    obtain ⟨k, hk, hke⟩ := List.getElem_of_mem he
    obtain ⟨e', he', h4, h5⟩ := hcl k e (by rw [← hke]; exact List.getElem?_eq_getElem hk) i o h2 (.inl hk) h3
    exact ⟨e', he', h4, by omega⟩
open Classical in
theorem best_ok (hv : ValidG g) (hl : LenG g) (hN : statesN g ≤ 130) (hs : SizeOf.sizeOf g ≤ fu) : ∃ B, law19_Best_p fu g = some B ∧ IsBest cbR g B := by
  have : Ok (law19_Best_p fu g) fun B => IsBest cbR g B := by
    unfold law19_Best_p
    rw [rinit_ok hv hl]
    simp only [Option.bind_some]
    refine Ok.while (fun q : Bool × List law19_found => LI g q.2 ∧ (q.1 = false → ClosedTo g q.2 q.2.length 0)) (fun q => LI g q.2 ∧ ClosedTo g q.2 q.2.length 0) (fun _ => False) (fun q => 2 * muL q.2 + q.1.toNat)
      ⟨LI.start hv, fun h => (by cases h)⟩ ?_ (fun _ h => h.elim) ?_
    · rintro ⟨ch, l⟩ ⟨hL, hcl⟩
      simp only at hL hcl
      cases ch with
      | true =>
        have key := pass_ok (R := Int) (kr := fun r => some (Ctl.ret r)) (k := un3 fun (changed107 : Bool) (i101 : Int) (l110 : (List law19_found)) => some (Ctl.next (changed107, l110)))
          (Q := fun c : Ctl (Bool × List law19_found) Int => ∃ ch2 l2, c = .next (ch2, l2) ∧ LI g l2 ∧ muL l2 ≤ muL l ∧ (ch2 = true → muL l2 < muL l) ∧ (ch2 = false → ClosedTo g l2 l2.length 0)) hv hl hN hs hL
          (fun ch' l a b c d => Ok.ret ⟨ch', l, rfl, a, b, c, d⟩)
        obtain ⟨c, hc, ch2, l2, rfl, hL2, hm2, hch2, hcl2⟩ := key
        refine ⟨.next (ch2, l2), ?_, fun s' e => ?_, fun s' e => (by cases e), fun r e => (by cases e)⟩
        · simp only [un2, if_true]
          exact hc
        · cases e
          refine ⟨⟨hL2, hcl2⟩, ?_⟩
          cases ch2 with
          | true =>
            have h3 := hch2 rfl
            show 2 * muL l2 + 1 < 2 * muL l + 1
            generalize muL l2 = a at *
            generalize muL l = b at *
            omega
          | false =>
            show 2 * muL l2 + 0 < 2 * muL l + 1
            generalize muL l2 = a at *
            generalize muL l = b at *
            omega
      | false =>
        refine ⟨.brk (false, l), ?_, fun s' e => (by cases e), fun s' e => ?_, fun r e => (by cases e)⟩
        · simp only [un2]
          rw [if_neg (by simp)]
        · cases e
          exact ⟨hL, hcl rfl⟩
    · rintro ⟨ch, l⟩ ⟨hL, hcl⟩
      simp only at hL hcl
      simp only [un2]
      have hlen := hL.len hv hN
      refine Ok.whileM l.length (fun j (b : Int) => b ≤ 1125899906842624 ∧ (∀ e ∈ l.take j, goalS cbR g e.s → b ≤ e.cost) ∧ (b = 1125899906842624 ∨ ∃ e ∈ l, goalS cbR g e.s ∧ b = e.cost)) (fun q => q.1 ≤ 1125899906842624 ∧ (∀ e ∈ l, goalS cbR g e.s → q.1 ≤ e.cost) ∧ (q.1 = 1125899906842624 ∨ ∃ e ∈ l, goalS cbR g e.s ∧ q.1 = e.cost)) (fun _ => False) ⟨Int.le_refl _, by simp, .inl rfl⟩ ?_ (fun _ h => h.elim) ?_
      · intro j b hj hb
        obtain ⟨b1, b2, b3⟩ := hb
        simp only [un2]
        by_cases hlt : j < l.length
        · obtain ⟨e, he⟩ := get_len hlt
          have hem := List.mem_of_getElem? he
          rw [if_pos (lt_len he)]
          simp only [idx_nat, he, Option.bind_some]
          rw [rgoal_ok hv hl (hL.lens hv e hem).1 hs, wrap_succ hlt (by omega)]
          simp only [Option.bind_some]
          by_cases hg : goalS cbR g e.s
          · simp only [hg, decide_true, if_true, Option.bind_some]
            refine Ok.ret ⟨hlt, rfl, by omega, fun x hx hxg => ?_, ?_⟩
            · rw [take_snoc he] at hx
              rcases List.mem_append.1 hx with hx | hx
              · have := b2 x hx hxg; omega
              · simp only [List.mem_singleton] at hx; subst hx; omega
            · rcases Int.le_total b e.cost with q | q
              · rw [Int.min_eq_left q]; exact b3
              · rw [Int.min_eq_right q]; exact .inr ⟨e, hem, hg, rfl⟩
          · simp only [hg, decide_false, Bool.false_eq_true, if_false, Option.bind_some]
            refine Ok.ret ⟨hlt, rfl, b1, fun x hx hxg => ?_, b3⟩
            rw [take_snoc he] at hx
            rcases List.mem_append.1 hx with hx | hx
            · exact b2 x hx hxg
            · simp only [List.mem_singleton] at hx; subst hx; exact absurd hxg hg
        · rw [if_neg (by simp; omega)]
          have : j = l.length := by omega
          subst this
          rw [List.take_length] at b2
          exact Ok.ret ⟨b1, b2, b3⟩
      · rintro ⟨b, i⟩ ⟨b1, b2, b3⟩
        simp only at b1 b2 b3
        refine Ok.ret ⟨b1, fun s c hr hg => ?_, b3.imp id ?_⟩
        · obtain ⟨e, he, rfl, hle⟩ := closed_reach hL hcl hr
          exact Int.le_trans (b2 e he hg) hle
        · rintro ⟨e, he, hg, rfl⟩
          exact ⟨e.s, hL.r e he, hg⟩
  obtain ⟨B, h1, h2⟩ := this
  exact ⟨B, h1, h2⟩
theorem simplifyCosts_ok (hl : LenG g) (hr : RoomT g) : ∃ fu, law19_SimplifyCosts_p fu g = some true := by
  obtain ⟨s, hs1⟩ : ∃ s : simplify_sets, ValidG g → Least g s.atoms s.fluents := by
    by_cases hv : ValidG g
    · obtain ⟨s, _, h⟩ := mrelevant_ok hv (Nat.le_refl _)
      exact ⟨s, fun _ => h⟩
    · exact ⟨⟨[], [], false⟩, fun h => absurd h hv⟩
  obtain ⟨A, F, zz⟩ := s
  simp only at hs1
  refine ⟨fuelOf A F g, ?_⟩
  have hs : SizeOf.sizeOf g ≤ fuelOf A F g := by unfold fuelOf; omega
  have hs2 : SizeOf.sizeOf (simpG A F g) ≤ fuelOf A F g := by unfold fuelOf; omega
  unfold law19_SimplifyCosts_p
  obtain ⟨b, hb, _⟩ := large_ok (fu := fuelOf A F g) hl hs
  obtain ⟨r, hr1⟩ := states_tot hl
  rw [hb, awake_ok, hr1]
  simp only [Option.bind_some]
  cases b with
  | true => simp
  | false =>
    simp only [Bool.false_eq_true, if_false]
    by_cases h8 : 8 < (g.Ops.length : Int)
    · simp [h8]
    rw [if_neg (by simpa using h8)]
    by_cases h130 : 130 < r
    · simp [h130]
    rw [if_neg (by simpa using h130)]
    simp only [Bool.not_true, Option.bind_some, Bool.false_eq_true, if_false]
    by_cases hv : ValidG g
    · have hL := hs1 hv
      have hst := states_ok hv hl
      rw [hr1] at hst
      have hN : statesN g ≤ 130 := by have := Zu hst; omega
      have hv2 := valid_simp hv hL
      have hl2 : LenG (simpG A F g) := lenG_simp hl
      have hN2 : statesN (simpG A F g) ≤ 130 := Nat.le_trans (statesN_simp hv hL) hN
      obtain ⟨B, e1, b1⟩ := best_ok hv hl hN hs
      obtain ⟨B', e2, b2⟩ := best_ok hv2 hl2 hN2 hs2
      rw [simplify_ok hv hl hr hs hL fuel_map]
      simp only [Option.bind_some, un3, Option.isSome_none, Bool.false_eq_true, if_false]
      rw [valid_ok hl2 hs2, states_ok hv2 hl2, e1, e2, best_same hv hL b1 b2]
      have : min (statesN (simpG A F g) : Int) 2000 ≤ 130 := by omega
      simp [hv2, this]
    · rw [simplify_no hv hl hs, valid_ok hl hs]
      simp [un3, hv]
end
end Go.Pw
