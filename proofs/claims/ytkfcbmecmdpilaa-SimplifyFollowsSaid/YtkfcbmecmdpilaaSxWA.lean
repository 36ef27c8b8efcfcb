/-
  What a ground task means, and what a state is in the simplified task, in plain Lean.
-/
import Derived.Test.YtkfcbmecmdpilaaSxVU
set_option maxHeartbeats 8000000
set_option linter.unusedSimpArgs false
set_option linter.unusedVariables false
namespace Go.Pw
theorem pw_ext : ∀ {l k : List Int}, l.Pairwise (· < ·) → k.Pairwise (· < ·) → (∀ e, e ∈ l ↔ e ∈ k) → l = k
  | [], [], _, _, _ => rfl
  | [], y :: k, _, _, h => absurd ((h y).2 (by simp)) (by simp)
  | x :: l, [], _, _, h => absurd ((h x).1 (by simp)) (by simp)
  | x :: l, y :: k, h1, h2, h => by
    obtain ⟨a1, a2⟩ := List.pairwise_cons.1 h1
    obtain ⟨b1, b2⟩ := List.pairwise_cons.1 h2
    have hxy : x = y := by
      rcases List.mem_cons.1 ((h x).1 (by simp)) with e | e
      · exact e
      · rcases List.mem_cons.1 ((h y).2 (by simp)) with e2 | e2
        · exact e2.symm
        · have := a1 y e2
          have := b1 x e
          omega
    subst hxy
    congr 1
    refine pw_ext a2 b2 fun e => ?_
    constructor
    · intro he
      rcases List.mem_cons.1 ((h e).1 (by simp [he])) with q | q
      · subst q; have := a1 e he; omega
      · exact q
    · intro he
      rcases List.mem_cons.1 ((h e).2 (by simp [he])) with q | q
      · subst q; have := b1 e he; omega
      · exact q
theorem idL_pw (n : Nat) : (idL n).Pairwise (· < ·) := by
  unfold idL
  refine List.pairwise_map.2 (List.pairwise_lt_range.imp fun h => by omega)
theorem idL_mem {n : Nat} {i : Int} : i ∈ idL n ↔ 0 ≤ i ∧ i < (n : Int) := by
  unfold idL
  rw [List.mem_map]
  constructor
  · rintro ⟨k, hk, rfl⟩
    have := List.mem_range.1 hk
    omega
  · rintro ⟨h0, h1⟩
    exact ⟨i.toNat, List.mem_range.2 (by omega), by omega⟩
section
variable (cb : ByteArray → Int → Int → Int × Bool)
mutual
def valS (V : List Int) : GExpr → Int × Bool
  | ⟨op, N, ks⟩ => if op = sNum then (N, true) else if op = sFlu then ((V[N.toNat]?).getD 0, true) else
    match valsS V ks with
    | [x, y] => if x.2 = true ∧ y.2 = true then cb op x.1 y.1 else (0, false)
    | _ => (0, false)
def valsS (V : List Int) : List GExpr → List (Int × Bool)
  | [] => []
  | k :: ks => valS V k :: valsS V ks
end
def cmpS (op : ByteArray) (x y : Int) : Prop := op = sLt1 ∧ x < y ∨ op = sLe1 ∧ x ≤ y ∨ op = sEq1 ∧ x = y
def testS (V : List Int) (t : GTest) : Prop := (valS cb V t.A).2 = true ∧ (valS cb V t.B).2 = true ∧ cmpS t.Op (valS cb V t.A).1 (valS cb V t.B).1
def holdS (s : GState) (c : Cond) : Prop := (∀ i ∈ c.Pos, i ∈ s.True) ∧ (∀ i ∈ c.Neg, i ∉ s.True) ∧ ∀ t ∈ c.Tests, testS cb s.Values t
def canS (g : Ground) (s : GState) (o : GOp) : Prop := holdS cb s o.Pre ∧ ∀ a ∈ o.Assigns, (valS cb s.Values a.Value).2 = true ∧ ∀ f, g.Fluents[a.Fluent.toNat]? = some f → f.Lo ≤ (valS cb s.Values a.Value).1 ∧ (valS cb s.Values a.Value).1 ≤ f.Hi
def isS (s : GState) (o : GOp) (i : Int) : Prop := (∃ c ∈ o.Changes, c.Atom = i ∧ c.Add = true ∧ holdS cb s c.When) ∨ (i ∈ s.True ∧ ¬ ∃ c ∈ o.Changes, c.Atom = i ∧ c.Add = false ∧ holdS cb s c.When)
def newV (V0 : List Int) (l : List GAssign) (V : List Int) : List Int := l.foldl (fun V a => V.set a.Fluent.toNat (valS cb V0 a.Value).1) V
open Classical in
noncomputable def nextS (n : Nat) (s : GState) (o : GOp) : GState := ⟨(idL n).filter fun i => decide (isS cb s o i), newV cb s.Values o.Assigns s.Values⟩
def goalS (g : Ground) (s : GState) : Prop := ∃ c ∈ g.Goal, holdS cb s c
def initS (g : Ground) : GState := ⟨g.Init, g.Fluents.map fun f => f.Init⟩
structure PropS (g : Ground) (s : GState) : Prop where
  t : Asc s.True (g.Atoms.length : Int)
  l : s.Values.length = g.Fluents.length
  r : ∀ (i : Nat) f v, g.Fluents[i]? = some f → s.Values[i]? = some v → f.Lo ≤ v ∧ v ≤ f.Hi
/-- What a state is in the simplified task. -/
def piS (A F : List Bool) (s : GState) : GState := ⟨(s.True.filter fun i => decide (0 ≤ at0 (numF A) i)).map (at0 (numF A)), keep F s.Values⟩
theorem valS_bin {V : List Int} {op : ByteArray} {a b : GExpr} (ho : op = sAdd ∨ op = sSub ∨ op = sMul) : valS cb V ⟨op, 0, [a, b]⟩ = if (valS cb V a).2 = true ∧ (valS cb V b).2 = true then cb op (valS cb V a).1 (valS cb V b).1 else (0, false) := by
  have h1 : op ≠ sNum := by rcases ho with h | h | h <;> subst h <;> simp
  have h2 : op ≠ sFlu := by rcases ho with h | h | h <;> subst h <;> simp
  rw [valS, if_neg h1, if_neg h2]
  simp only [valsS]
end
section
variable {cb : ByteArray → Int → Int → Int × Bool} {A F : List Bool} {g : Ground} {s : GState}
theorem keep_mk {α : Type} {xs : List α} (hl : xs.length = F.length) {i : Int} (h : Mk F i) : (keep F xs)[(at0 (numF F) i).toNat]? = xs[i.toNat]? := by
  obtain ⟨x, hx⟩ := get_len (xs := xs) (i := i.toNat) (by have := (List.getElem?_eq_some_iff.1 h.2).1; omega)
  rw [na_eq h, Int.toNat_natCast, keep_get hl h.2 hx, hx]
theorem val_map {n : Int} {V : List Int} (hl : V.length = F.length) {e : GExpr} (h : RE n e) : (∀ i, FL e i → Mk F i) → valS cb (keep F V) (mapE (at0 (numF F)) e) = valS cb V e := by
  induction h with
  | num a b =>
    intro _
    simp only [mapE, mapEs, valS, if_true]
    rw [if_neg (by simp)]
  | flu a b =>
    intro hf
    simp only [mapE, mapEs, valS, if_true]
    rw [keep_mk hl (hf _ (.here rfl)), if_neg (show ¬ sFlu = sNum by simp), if_neg (show ¬ sFlu = sNum by simp)]
  | bin ho ha hb iha ihb =>
    intro hf
    simp only [mapE, mapEs]
    rw [if_neg (by rcases ho with h | h | h <;> subst h <;> simp), valS_bin cb ho, valS_bin cb ho, iha fun i hi => hf i (.kid (by simp) hi), ihb fun i hi => hf i (.kid (by simp) hi)]
theorem mem_pi (hr : ∀ i ∈ s.True, 0 ≤ i ∧ i < (A.length : Int)) {i : Int} (h : Mk A i) : at0 (numF A) i ∈ (piS A F s).True ↔ i ∈ s.True := by
  unfold piS
  simp only [List.mem_map, List.mem_filter, decide_eq_true_eq]
  constructor
  · rintro ⟨j, ⟨hj, h0⟩, e⟩
    have := hr j hj
    rw [← na_inj ((at0_mk this.1 this.2).1 h0) h e]
    exact hj
  · intro hi
    exact ⟨i, ⟨hi, (na_rng h).1⟩, rfl⟩
theorem hold_map {na nf : Int} {c : Cond} (hr : ∀ i ∈ s.True, 0 ≤ i ∧ i < (A.length : Int)) (hl : s.Values.length = F.length) (hc : CondOK na nf c) (ha : ∀ i, CAt c i → Mk A i) (hf : ∀ i, CFl c i → Mk F i) :
    holdS cb (piS A F s) (mapC (at0 (numF A)) (at0 (numF F)) c) ↔ holdS cb s c := by
  have ht : ∀ t ∈ c.Tests, testS cb (piS A F s).Values (mapT (at0 (numF F)) t) ↔ testS cb s.Values t := fun t ht => by
    obtain ⟨_, h2, h3⟩ := hc.t t ht
    unfold testS
    show (valS cb (keep F s.Values) (mapE _ t.A)).2 = true ∧ (valS cb (keep F s.Values) (mapE _ t.B)).2 = true ∧ cmpS t.Op (valS cb (keep F s.Values) (mapE _ t.A)).1 (valS cb (keep F s.Values) (mapE _ t.B)).1 ↔ _
    rw [val_map hl h2 fun i hi => hf i ⟨t, ht, .inl hi⟩, val_map hl h3 fun i hi => hf i ⟨t, ht, .inr hi⟩]
  unfold holdS mapC
  simp only [List.mem_map, forall_exists_index, and_imp, forall_apply_eq_imp_iff₂]
  constructor
  · rintro ⟨h1, h2, h3⟩
    exact ⟨fun i hi => (mem_pi hr (ha i (.inl hi))).1 (h1 i hi), fun i hi q => h2 i hi ((mem_pi hr (ha i (.inr hi))).2 q), fun t htm => (ht t htm).1 (h3 t htm)⟩
  · rintro ⟨h1, h2, h3⟩
    exact ⟨fun i hi => (mem_pi hr (ha i (.inl hi))).2 (h1 i hi), fun i hi q => h2 i hi ((mem_pi hr (ha i (.inr hi))).1 q), fun t htm => (ht t htm).2 (h3 t htm)⟩
theorem newV_len (V0 : List Int) : ∀ (l : List GAssign) (V : List Int), (newV cb V0 l V).length = V.length
  | [], V => rfl
  | a :: l, V => by
    unfold newV
    rw [List.foldl_cons]
    have := newV_len V0 l (V.set a.Fluent.toNat (valS cb V0 a.Value).1)
    unfold newV at this
    rw [this, List.length_set]
theorem newV_miss (V0 : List Int) {j : Nat} : ∀ (l : List GAssign) (V : List Int), (∀ a ∈ l, a.Fluent.toNat ≠ j) → (newV cb V0 l V)[j]? = V[j]?
  | [], V, _ => rfl
  | a :: l, V, h => by
    unfold newV
    rw [List.foldl_cons]
    have := newV_miss V0 l (V.set a.Fluent.toNat (valS cb V0 a.Value).1) fun b hb => h b (by simp [hb])
    unfold newV at this
    rw [this, List.getElem?_set_ne (h a (by simp))]
theorem newV_hit (V0 : List Int) {a : GAssign} : ∀ (l : List GAssign) (V : List Int), l.Pairwise (fun a b => a.Fluent.toNat ≠ b.Fluent.toNat) → a ∈ l → a.Fluent.toNat < V.length → (newV cb V0 l V)[a.Fluent.toNat]? = some (valS cb V0 a.Value).1
  | [], V, _, h, _ => by simp at h
  | b :: l, V, hp, h, hV => by
    obtain ⟨h1, h2⟩ := List.pairwise_cons.1 hp
    have hrec : newV cb V0 (b :: l) V = newV cb V0 l (V.set b.Fluent.toNat (valS cb V0 b.Value).1) := by unfold newV; rw [List.foldl_cons]
    rw [hrec]
    rcases List.mem_cons.1 h with rfl | h
    · rw [newV_miss V0 l _ fun c hc => (h1 c hc).symm, List.getElem?_set_self hV]
    · exact newV_hit V0 l _ h2 h (by rw [List.length_set]; exact hV)
theorem ass_pw {nf : Int} {o : GOp} (h : ∀ j, AssAt nf o.Assigns j) : o.Assigns.Pairwise (fun a b => a.Fluent.toNat ≠ b.Fluent.toNat) :=
  List.pairwise_iff_getElem.2 fun i j hi hj hij => by
    have h1 := h j _ (List.getElem?_eq_getElem hj)
    have h2 := h i _ (List.getElem?_eq_getElem hi)
    have := h1.2.2.1 i _ hij (List.getElem?_eq_getElem hi)
    have := h1.1
    have := h2.1
    omega
/-! ### proper states -/
theorem init_prop (hv : ValidG g) : PropS g (initS g) := by
  refine ⟨hv.i, by simp [initS], fun i f v hf hvv => ?_⟩
  simp only [initS, List.getElem?_map, hf, Option.map_some, Option.some.injEq] at hvv
  subst hvv
  have := hv.flu f (List.mem_of_getElem? hf)
  exact ⟨this.2.1, this.2.2.1⟩
theorem next_prop {o : GOp} (ho : GOpOK (g.Atoms.length : Int) (g.Fluents.length : Int) o) (hs : PropS g s) (hc : canS cb g s o) : PropS g (nextS cb g.Atoms.length s o) := by
  refine ⟨asc_of_pw ((idL_pw _).sublist List.filter_sublist) fun x hx => idL_mem.1 (List.mem_filter.1 hx).1, ?_, fun i f v hf hvv => ?_⟩
  · show (newV cb s.Values o.Assigns s.Values).length = _
    rw [newV_len, hs.l]
  · have hvv : (newV cb s.Values o.Assigns s.Values)[i]? = some v := hvv
    by_cases h : ∃ a ∈ o.Assigns, a.Fluent.toNat = i
    · obtain ⟨a, ha, rfl⟩ := h
      have hr := ass_rng ho.as ha
      rw [newV_hit _ _ _ (ass_pw ho.as) ha (by rw [hs.l]; omega)] at hvv
      cases hvv
      exact (hc.2 a ha).2 f hf
    · rw [newV_miss _ _ _ fun a ha e => h ⟨a, ha, e⟩] at hvv
      exact hs.r i f v hf hvv
theorem keep_map {α β : Type} (f : α → β) (S : List Bool) (xs : List α) : keep S (xs.map f) = (keep S xs).map f := by
  unfold keep
  rw [List.map_filterMap, List.length_map]
  congr 1
  funext i
  by_cases h : S[i]? = some true
  · rw [if_pos h, if_pos h, List.getElem?_map]
  · rw [if_neg h, if_neg h]; rfl
theorem pi_init : piS A F (initS g) = initS (simpG A F g) := by
  unfold piS initS simpG
  simp only
  rw [keep_map]
/-! ### operators that a relevant thing is touched by -/
variable {o : GOp}
theorem PropS.rng (hs : PropS g s) (la : A.length = g.Atoms.length) : ∀ i ∈ s.True, 0 ≤ i ∧ i < (A.length : Int) := fun i hi => by rw [la]; exact hs.t.rng hi
theorem can_map (hL : Least g A F) (hs : PropS g s) (ho : GOpOK (g.Atoms.length : Int) (g.Fluents.length : Int) o) (hT : Touch (Mk A) (Mk F) o) (hR : OpRule o (Mk A) (Mk F)) :
    canS cb (simpG A F g) (piS A F s) (mapO (at0 (numF A)) (at0 (numF F)) o) ↔ canS cb g s o := by
  obtain ⟨r1, r2, r3, r4⟩ := hR hT
  have hl : s.Values.length = F.length := by rw [hs.l, hL.lf]
  have hass : ∀ a ∈ o.Assigns, valS cb (keep F s.Values) (mapE (at0 (numF F)) a.Value) = valS cb s.Values a.Value := fun a ha => val_map hl (ass_rng ho.as ha).2.2 (r4 a ha).2
  have hflu : ∀ a ∈ o.Assigns, (keep F g.Fluents)[(at0 (numF F) a.Fluent).toNat]? = g.Fluents[a.Fluent.toNat]? := fun a ha => keep_mk (by rw [hL.lf]) (r4 a ha).1
  unfold canS
  rw [show (mapO (at0 (numF A)) (at0 (numF F)) o).Pre = mapC (at0 (numF A)) (at0 (numF F)) o.Pre from rfl, hold_map (hs.rng hL.la) hl ho.pre r1 r2]
  refine and_congr_right fun _ => ?_
  show (∀ a ∈ o.Assigns.map (mapG (at0 (numF F))), _) ↔ _
  simp only [List.mem_map, forall_exists_index, and_imp, forall_apply_eq_imp_iff₂]
  refine forall_congr' fun a => forall_congr' fun ha => ?_
  show (valS cb (keep F s.Values) (mapE (at0 (numF F)) a.Value)).2 = true ∧ (∀ f, (keep F g.Fluents)[(at0 (numF F) a.Fluent).toNat]? = some f → f.Lo ≤ (valS cb (keep F s.Values) (mapE (at0 (numF F)) a.Value)).1 ∧ (valS cb (keep F s.Values) (mapE (at0 (numF F)) a.Value)).1 ≤ f.Hi) ↔ _
  rw [hass a ha, hflu a ha]
theorem is_map (hL : Least g A F) (hs : PropS g s) (ho : GOpOK (g.Atoms.length : Int) (g.Fluents.length : Int) o) (hT : Touch (Mk A) (Mk F) o) (hR : OpRule o (Mk A) (Mk F)) {i : Int} (hi : Mk A i) :
    isS cb (piS A F s) (mapO (at0 (numF A)) (at0 (numF F)) o) (at0 (numF A) i) ↔ isS cb s o i := by
  obtain ⟨r1, r2, r3, r4⟩ := hR hT
  have hl : s.Values.length = F.length := by rw [hs.l, hL.lf]
  have key : ∀ b : Bool, (∃ c ∈ (mapO (at0 (numF A)) (at0 (numF F)) o).Changes, c.Atom = at0 (numF A) i ∧ c.Add = b ∧ holdS cb (piS A F s) c.When) ↔ ∃ c ∈ o.Changes, c.Atom = i ∧ c.Add = b ∧ holdS cb s c.When := by
    intro b
    constructor
    · rintro ⟨c, hc, e1, e2, hh⟩
      obtain ⟨x, hx, rfl⟩ := List.mem_map.1 hc
      obtain ⟨hx1, hx2⟩ := List.mem_filter.1 hx
      have hX := ho.chg x hx1
      have hm := (at0_mk (A := A) hX.r0 (by rw [hL.la]; exact hX.r1)).1 (of_decide_eq_true hx2)
      have h3 := r3 x hx1 hm
      exact ⟨x, hx1, na_inj hm hi e1, e2, (hold_map (hs.rng hL.la) hl hX.w h3.1 h3.2).1 hh⟩
    · rintro ⟨x, hx, rfl, e2, hh⟩
      have hX := ho.chg x hx
      have h3 := r3 x hx hi
      exact ⟨mapH (at0 (numF A)) (at0 (numF F)) x, List.mem_map.2 ⟨x, List.mem_filter.2 ⟨hx, decide_eq_true (na_rng hi).1⟩, rfl⟩, rfl, e2, (hold_map (hs.rng hL.la) hl hX.w h3.1 h3.2).2 hh⟩
  unfold isS
  rw [key, key, mem_pi (hs.rng hL.la) hi]
theorem pi_true_mem (hr : ∀ i ∈ s.True, 0 ≤ i ∧ i < (A.length : Int)) {j : Int} : j ∈ (piS A F s).True ↔ ∃ i, i ∈ s.True ∧ Mk A i ∧ at0 (numF A) i = j := by
  unfold piS
  simp only [List.mem_map, List.mem_filter, decide_eq_true_eq]
  constructor
  · rintro ⟨i, ⟨hi, h0⟩, e⟩
    have := hr i hi
    exact ⟨i, hi, (at0_mk this.1 this.2).1 h0, e⟩
  · rintro ⟨i, hi, hm, e⟩
    exact ⟨i, ⟨hi, (na_rng hm).1⟩, e⟩
theorem pi_true_pw (hs : Asc s.True (A.length : Int)) : (piS A F s).True.Pairwise (· < ·) := by
  have : Asc (piS A F s).True (cnt A : Int) := by
    refine asc_map (hs.pw.sublist List.filter_sublist) fun x hx => ?_
    obtain ⟨hx1, hx2⟩ := List.mem_filter.1 hx
    have := hs.rng hx1
    exact (at0_mk this.1 this.2).1 (of_decide_eq_true hx2)
  exact this.pw
theorem next_map (hL : Least g A F) (hs : PropS g s) (ho : GOpOK (g.Atoms.length : Int) (g.Fluents.length : Int) o) (hc : canS cb g s o) (hT : Touch (Mk A) (Mk F) o) (hR : OpRule o (Mk A) (Mk F)) :
    nextS cb (simpG A F g).Atoms.length (piS A F s) (mapO (at0 (numF A)) (at0 (numF F)) o) = piS A F (nextS cb g.Atoms.length s o) := by
  have r4 := (hR hT).2.2.2
  have hl : s.Values.length = F.length := by rw [hs.l, hL.lf]
  have hp := next_prop ho hs hc
  have hln : (newV cb s.Values o.Assigns s.Values).length = F.length := by rw [newV_len, hl]
  have e1 : (nextS cb (simpG A F g).Atoms.length (piS A F s) (mapO (at0 (numF A)) (at0 (numF F)) o)).True = (piS A F (nextS cb g.Atoms.length s o)).True := by
    refine pw_ext ((idL_pw _).sublist List.filter_sublist) (pi_true_pw (by rw [hL.la]; exact hp.t)) fun j => ?_
    rw [pi_true_mem (hp.rng hL.la)]
    unfold nextS
    simp only [List.mem_filter, decide_eq_true_eq, idL_mem]
    have la : (simpG A F g).Atoms.length = cnt A := keepA_len hL
    rw [la]
    constructor
    · rintro ⟨⟨h0, h1⟩, hi⟩
      obtain ⟨i, hm, rfl⟩ := na_surj h0 h1
      have := mk_lt hm
      exact ⟨i, ⟨⟨this.1, by rw [← hL.la]; exact this.2⟩, (is_map hL hs ho hT hR hm).1 hi⟩, hm, rfl⟩
    · rintro ⟨i, ⟨_, hi⟩, hm, rfl⟩
      exact ⟨na_rng hm, (is_map hL hs ho hT hR hm).2 hi⟩
  have e2 : (nextS cb (simpG A F g).Atoms.length (piS A F s) (mapO (at0 (numF A)) (at0 (numF F)) o)).Values = (piS A F (nextS cb g.Atoms.length s o)).Values := by
    show newV cb (keep F s.Values) (o.Assigns.map (mapG (at0 (numF F)))) (keep F s.Values) = keep F (newV cb s.Values o.Assigns s.Values)
    have hk : (keep F s.Values).length = cnt F := keep_count hl
    apply List.ext_getElem?
    intro j
    by_cases hj : j < cnt F
    · obtain ⟨i, hm, hij⟩ := na_surj (A := F) (i := (j : Int)) (by omega) (by omega)
      have hjn : j = (at0 (numF F) i).toNat := by omega
      rw [hjn, keep_mk hln hm]
      by_cases h : ∃ a ∈ o.Assigns, a.Fluent = i
      · obtain ⟨a, ha, rfl⟩ := h
        rw [newV_hit _ _ _ (ass_pw ho.as) ha (by have := mk_lt hm; omega)]
        have hmap : (o.Assigns.map (mapG (at0 (numF F)))).Pairwise (fun a b => a.Fluent.toNat ≠ b.Fluent.toNat) := by
          refine List.pairwise_map.2 ((ass_pw ho.as).imp_of_mem fun {x y} hx hy hxy => ?_)
          intro e
          have h1 := na_rng (r4 x hx).1
          have h2 := na_rng (r4 y hy).1
          have : at0 (numF F) x.Fluent = at0 (numF F) y.Fluent := by
            have e' : (at0 (numF F) x.Fluent).toNat = (at0 (numF F) y.Fluent).toNat := e
            omega
          rw [na_inj (r4 x hx).1 (r4 y hy).1 this] at hxy
          exact hxy rfl
        have := newV_hit (cb := cb) (keep F s.Values) (a := mapG (at0 (numF F)) a) _ (keep F s.Values) hmap (List.mem_map.2 ⟨a, ha, rfl⟩) (by show (at0 (numF F) a.Fluent).toNat < _; omega)
        rw [show (mapG (at0 (numF F)) a).Fluent = at0 (numF F) a.Fluent from rfl] at this
        rw [this, show (mapG (at0 (numF F)) a).Value = mapE (at0 (numF F)) a.Value from rfl, val_map hl (ass_rng ho.as ha).2.2 (r4 a ha).2]
      · rw [newV_miss _ _ _ fun a ha e => ?_, newV_miss _ _ _ fun a ha e => ?_, keep_mk hl hm]
        · apply h
          have := (ass_rng ho.as ha).1
          have := hm.1
          exact ⟨a, ha, by omega⟩
        · obtain ⟨x, hx, rfl⟩ := List.mem_map.1 ha
          have h1 := na_rng (r4 x hx).1
          have e' : (at0 (numF F) x.Fluent).toNat = (at0 (numF F) i).toNat := e
          have h2 := na_rng hm
          exact h ⟨x, hx, na_inj (r4 x hx).1 hm (by omega)⟩
    · rw [List.getElem?_eq_none (by rw [newV_len]; omega), List.getElem?_eq_none (by rw [keep_count hln]; omega)]
  generalize nextS cb (simpG A F g).Atoms.length (piS A F s) (mapO (at0 (numF A)) (at0 (numF F)) o) = x at e1 e2
  generalize piS A F (nextS cb g.Atoms.length s o) = y at e1 e2
  cases x; cases y
  simp only at e1 e2
  rw [e1, e2]
open Classical in
/-- What touches nothing relevant changes nothing that stays. -/
theorem next_skip (hL : Least g A F) (hs : PropS g s) (ho : GOpOK (g.Atoms.length : Int) (g.Fluents.length : Int) o) (hT : ¬ Touch (Mk A) (Mk F) o) :
    piS A F (nextS cb g.Atoms.length s o) = piS A F s := by
  have hl : s.Values.length = F.length := by rw [hs.l, hL.lf]
  have hln : (newV cb s.Values o.Assigns s.Values).length = F.length := by rw [newV_len, hl]
  have e1 : (piS A F (nextS cb g.Atoms.length s o)).True = (piS A F s).True := by
    have hasc : Asc (nextS cb g.Atoms.length s o).True (A.length : Int) := asc_of_pw ((idL_pw _).sublist List.filter_sublist) fun x hx => by rw [hL.la]; exact idL_mem.1 (List.mem_filter.1 hx).1
    refine pw_ext (pi_true_pw hasc) (pi_true_pw (by rw [hL.la]; exact hs.t)) fun j => ?_
    rw [pi_true_mem fun i hi => hasc.rng hi, pi_true_mem (hs.rng hL.la)]
    refine exists_congr fun i => ?_
    constructor
    · rintro ⟨hi, hm, e⟩
      refine ⟨?_, hm, e⟩
      rcases of_decide_eq_true (List.mem_filter.1 hi).2 with ⟨c, hc, rfl, _⟩ | h
      · exact absurd (.inl ⟨c, hc, hm⟩) hT
      · exact h.1
    · rintro ⟨hi, hm, e⟩
      refine ⟨List.mem_filter.2 ⟨idL_mem.2 (hs.t.rng hi), decide_eq_true (.inr ⟨hi, ?_⟩)⟩, hm, e⟩
      rintro ⟨c, hc, rfl, _⟩
      exact hT (.inl ⟨c, hc, hm⟩)
  have e2 : (piS A F (nextS cb g.Atoms.length s o)).Values = (piS A F s).Values := by
    show keep F (newV cb s.Values o.Assigns s.Values) = keep F s.Values
    have hk : (keep F s.Values).length = cnt F := keep_count hl
    apply List.ext_getElem?
    intro j
    by_cases hj : j < cnt F
    · obtain ⟨i, hm, hij⟩ := na_surj (A := F) (i := (j : Int)) (by omega) (by omega)
      have hjn : j = (at0 (numF F) i).toNat := by omega
      rw [hjn, keep_mk hln hm, keep_mk hl hm]
      refine newV_miss _ _ _ fun a ha e => hT (.inr ⟨a, ha, ?_⟩)
      have := (ass_rng ho.as ha).1
      have := hm.1
      rw [show a.Fluent = i by omega]
      exact hm
    · rw [List.getElem?_eq_none (by rw [keep_count hln]; omega), List.getElem?_eq_none (by omega)]
  generalize piS A F (nextS cb g.Atoms.length s o) = x at e1 e2
  generalize piS A F s = y at e1 e2
  cases x; cases y
  simp only at e1 e2
  rw [e1, e2]
theorem can_alike {h : Ground} {x y : GOp} (ha : Alike x y) : canS cb h s x ↔ canS cb h s y := by
  unfold canS
  rw [ha.1, ha.2.2]
theorem next_alike {n : Nat} {x y : GOp} (ha : Alike x y) : nextS cb n s x = nextS cb n s y := by
  unfold nextS isS
  rw [ha.2.1, ha.2.2]
theorem goal_map (hv : ValidG g) (hL : Least g A F) (hs : PropS g s) : goalS cb (simpG A F g) (piS A F s) ↔ goalS cb g s := by
  have hl : s.Values.length = F.length := by rw [hs.l, hL.lf]
  unfold goalS
  constructor
  · rintro ⟨c, hc, hh⟩
    obtain ⟨x, hx, rfl⟩ := List.mem_map.1 hc
    have := hL.c.1 x hx
    exact ⟨x, hx, (hold_map (hs.rng hL.la) hl (hv.goal x hx) this.1 this.2).1 hh⟩
  · rintro ⟨x, hx, hh⟩
    have := hL.c.1 x hx
    exact ⟨_, List.mem_map.2 ⟨x, hx, rfl⟩, (hold_map (hs.rng hL.la) hl (hv.goal x hx) this.1 this.2).2 hh⟩
end
end Go.Pw
/-
  The reference's steps compute what a ground task means, in plain Lean.
-/
set_option maxHeartbeats 8000000
namespace Go.Pw
noncomputable def cbR (op : ByteArray) (a b : Int) : Int × Bool := (ref14_Combine_p op a b).getD (0, false)
section
variable {s : GState} {g : Ground} {fu : Nat}
theorem PropS.len (hs : PropS g s) : s.True.length ≤ g.Atoms.length := hs.t.len_le
open Classical in
theorem rstate_ok {a b : GState} (h1 : a.True.length ≤ 9223372036854775807) (h2 : a.Values.length ≤ 9223372036854775807) : ref18_SameState_p a b = some (decide (a = b)) := by
  unfold ref18_SameState_p
  rw [rints_ok h1, rints_ok h2]
  obtain ⟨p, q⟩ := a
  obtain ⟨p', q'⟩ := b
  by_cases e1 : p = p'
  · by_cases e2 : q = q' <;> simp [e1, e2]
  · simp [e1]
end
end Go.Pw
/-
  How many proper states there are, in plain Lean.
-/
set_option maxHeartbeats 8000000
namespace Go.Pw
theorem pigeon {α : Type} : ∀ {l k : List α}, l.Pairwise (fun a b => a ≠ b) → (∀ x ∈ l, x ∈ k) → l.length ≤ k.length
  | [], k, _, _ => Nat.zero_le _
  | x :: l, k, h, hs => by
    obtain ⟨h1, h2⟩ := List.pairwise_cons.1 h
    obtain ⟨k1, k2, rfl⟩ := List.append_of_mem (hs x (by simp))
    have := pigeon (l := l) (k := k1 ++ k2) h2 fun y hy => by
      have := hs y (by simp [hy])
      simp only [List.mem_append, List.mem_cons] at this ⊢
      rcases this with q | rfl | q
      · exact .inl q
      · exact absurd rfl (h1 _ hy)
      · exact .inr q
    simp only [List.length_append, List.length_cons] at this ⊢
    omega
/-- All ascending lists of numbers below n. -/
def allT : Nat → List (List Int)
  | 0 => [[]]
  | n + 1 => allT n ++ (allT n).map fun l => l ++ [(n : Int)]
theorem allT_len : ∀ n, (allT n).length = 2 ^ n
  | 0 => rfl
  | n + 1 => by rw [allT, List.length_append, List.length_map, allT_len n, Nat.pow_succ]; omega
theorem allT_mem : ∀ (n : Nat) {l : List Int}, l.Pairwise (· < ·) → (∀ x ∈ l, 0 ≤ x ∧ x < (n : Int)) → l ∈ allT n
  | 0, l, _, h => by
    have : l = [] := by
      cases l with
      | nil => rfl
      | cons x l => have := h x (by simp); omega
    subst this
    simp [allT]
  | n + 1, l, hp, h => by
    have hf := filter_step hp (n : Int)
    have hall : l.filter (fun x => decide (x < (n : Int) + 1)) = l := List.filter_eq_self.2 fun x hx => decide_eq_true (by have := (h x hx).2; omega)
    rw [hall] at hf
    have hrec := allT_mem n (l := l.filter fun x => decide (x < (n : Int))) (hp.sublist List.filter_sublist) fun x hx => by
      obtain ⟨h1, h2⟩ := List.mem_filter.1 hx
      exact ⟨(h x h1).1, of_decide_eq_true h2⟩
    rw [allT, List.mem_append, List.mem_map]
    by_cases hn : (n : Int) ∈ l
    · rw [if_pos hn] at hf
      exact .inr ⟨_, hrec, hf.symm⟩
    · rw [if_neg hn, List.append_nil] at hf
      rw [hf]
      exact .inl hrec
def sizeF (f : GFluent) : Nat := (f.Hi - f.Lo + 1).toNat
def sizeN : List GFluent → Nat
  | [] => 1
  | f :: fs => sizeF f * sizeN fs
def prodL {α β γ : Type} (f : α → β → γ) (ys : List β) : List α → List γ
  | [] => []
  | x :: xs => ys.map (f x) ++ prodL f ys xs
theorem prodL_len {α β γ : Type} (f : α → β → γ) (ys : List β) : ∀ xs, (prodL f ys xs).length = xs.length * ys.length
  | [] => by simp [prodL]
  | x :: xs => by rw [prodL, List.length_append, List.length_map, prodL_len f ys xs, List.length_cons, Nat.succ_mul]; omega
theorem prodL_mem {α β γ : Type} {f : α → β → γ} {ys : List β} {x : α} {y : β} (hy : y ∈ ys) : ∀ {xs}, x ∈ xs → f x y ∈ prodL f ys xs
  | [], h => by simp at h
  | z :: xs, h => by
    rw [prodL, List.mem_append]
    rcases List.mem_cons.1 h with rfl | h
    · exact .inl (List.mem_map.2 ⟨y, hy, rfl⟩)
    · exact .inr (prodL_mem hy h)
/-- All values of fluents. -/
def allV : List GFluent → List (List Int)
  | [] => [[]]
  | f :: fs => prodL (fun (v : Int) l => v :: l) (allV fs) ((List.range (sizeF f)).map fun (k : Nat) => f.Lo + (k : Int))
theorem allV_len : ∀ fs, (allV fs).length = sizeN fs
  | [] => rfl
  | f :: fs => by rw [allV, prodL_len, List.length_map, List.length_range, allV_len fs]; rfl
theorem allV_mem : ∀ (fs : List GFluent) {V : List Int}, V.length = fs.length → (∀ (i : Nat) f v, fs[i]? = some f → V[i]? = some v → f.Lo ≤ v ∧ v ≤ f.Hi) → V ∈ allV fs
  | [], V, hl, _ => by
    cases V with
    | nil => simp [allV]
    | cons x V => simp at hl
  | f :: fs, [], hl, _ => by simp at hl
  | f :: fs, v :: V, hl, h => by
    have h0 := h 0 f v rfl rfl
    have hrec := allV_mem fs (V := V) (by simpa using hl) fun i f v h1 h2 => h (i + 1) f v (by simpa using h1) (by simpa using h2)
    rw [allV]
    refine prodL_mem (f := fun (v : Int) l => v :: l) hrec (List.mem_map.2 ⟨(v - f.Lo).toNat, List.mem_range.2 ?_, ?_⟩)
    · unfold sizeF; omega
    · omega
def statesN (g : Ground) : Nat := 2 ^ g.Atoms.length * sizeN g.Fluents
theorem states_count {g : Ground} {l : List GState} (hd : l.Pairwise fun a b => a ≠ b) (hp : ∀ s ∈ l, PropS g s) : l.length ≤ statesN g := by
  have := pigeon (k := prodL (fun t v => (⟨t, v⟩ : GState)) (allV g.Fluents) (allT g.Atoms.length)) hd fun s hs => by
    have h := hp s hs
    obtain ⟨t, v⟩ := s
    exact prodL_mem (f := fun t v => (⟨t, v⟩ : GState)) (allV_mem _ h.l h.r) (allT_mem _ h.t.pw fun x hx => h.t.rng hx)
  rwa [prodL_len, allT_len, allV_len] at this
/-! ### the simplified task has no more states -/
end Go.Pw
/-
  The least cost of a plan: what the law's search finds, and that the simplified task has the same, in plain Lean.
-/
set_option maxHeartbeats 8000000
namespace Go.Pw
/-- What is touched has one alike that stays and costs no more. -/
theorem stay_cheap {T : List Bool} {M : List GOp} (hc : ∀ x ∈ M, 0 ≤ x.Cost) : ∀ (n i : Nat) (x : GOp), M[i]? = some x → T[i]? = some true → x.Cost.toNat * (M.length + 1) + i < n → ∃ (j : Nat) (y : GOp), (stayL T M)[j]? = some true ∧ M[j]? = some y ∧ Alike x y ∧ y.Cost ≤ x.Cost
  | 0, i, x, _, _, h => absurd h (Nat.not_lt_zero _)
  | n + 1, i, x, hx, hi, h => by
    by_cases hb : ∃ j, T[j]? = some true ∧ Beats M j i
    · obtain ⟨j, hj, x', y, hx', hy, hne, hlt, ha⟩ := hb
      rw [hx] at hx'; cases hx'
      have hjl := (List.getElem?_eq_some_iff.1 hy).1
      have c1 := hc x (List.mem_of_getElem? hx)
      have c2 := hc y (List.mem_of_getElem? hy)
      have hle : y.Cost ≤ x.Cost := by omega
      have hm : y.Cost.toNat * (M.length + 1) + j < x.Cost.toNat * (M.length + 1) + i := by
        rcases hlt with hlt | ⟨hlt, hji⟩
        · have h1 : (y.Cost.toNat + 1) * (M.length + 1) ≤ x.Cost.toNat * (M.length + 1) := Nat.mul_le_mul_right _ (by omega)
          rw [Nat.succ_mul] at h1
          omega
        · rw [hlt]; omega
      obtain ⟨k, z, hk, hz, ha2, hc2⟩ := stay_cheap hc n j y hy hj (by omega)
      exact ⟨k, z, hk, hz, ha.trans ha2, Int.le_trans hc2 hle⟩
    · exact ⟨i, x, (stayL_get (List.getElem?_eq_some_iff.1 hx).1).2 ⟨hi, hb⟩, hx, Alike.refl x, Int.le_refl _⟩
section
variable (cb : ByteArray → Int → Int → Int × Bool) (g : Ground)
/-- States and what a run to them costs. -/
inductive ReachS : GState → Int → Prop
  | init : ReachS (initS g) 0
  | step {s : GState} {c : Int} {i : Nat} {o : GOp} : ReachS s c → g.Ops[i]? = some o → canS cb g s o → ReachS (nextS cb g.Atoms.length s o) (c + o.Cost)
structure IsBest (B : Int) : Prop where
  le : B ≤ 1125899906842624
  lb : ∀ s c, ReachS cb g s c → goalS cb g s → B ≤ c
  ex : B = 1125899906842624 ∨ ∃ s, ReachS cb g s B ∧ goalS cb g s
end
section
variable {cb : ByteArray → Int → Int → Int × Bool} {g : Ground} {A F : List Bool} {s : GState} {c : Int}
theorem ReachS.prop (hv : ValidG g) (h : ReachS cb g s c) : PropS g s ∧ 0 ≤ c := by
  induction h with
  | init => exact ⟨init_prop hv, Int.le_refl _⟩
  | step h1 h2 h3 ih =>
    have ho := hv.op _ (List.mem_of_getElem? h2)
    have := ho.c0
    exact ⟨next_prop ho ih.1 h3, by have := ih.2; omega⟩
/-- An operator's place in the simplified task. -/
theorem stays_at {i : Nat} {o : GOp} (hv : ValidG g) (hi : g.Ops[i]? = some o) (hT : Touch (Mk A) (Mk F) o) : ∃ (k : Nat) (y : GOp), (simpG A F g).Ops[k]? = some y ∧ Alike (mapO (at0 (numF A)) (at0 (numF F)) o) y ∧ y.Cost ≤ o.Cost := by
  obtain ⟨j, y, hj, hy, ha, hc⟩ := stay_cheap (mapL_cost (A := A) (F := F) hv) _ i _ (map_get hi) ((tou_get hi).2 hT) (Nat.lt_succ_self _)
  exact ⟨_, y, keep_get (by unfold staL; rw [stayL_len]) hj hy, ha, hc⟩
end
/-! ### the law's search -/
structure LI (g : Ground) (l : List law19_found) : Prop where
  r : ∀ e ∈ l, ReachS cbR g e.s e.cost
  d : l.Pairwise fun a b => a.s ≠ b.s
  z : ∃ e ∈ l, e.s = initS g ∧ e.cost = 0
  b : ∀ (k : Nat) e, l[k]? = some e → e.cost ≤ (k : Int) * 1048576
section
variable {g : Ground} {l : List law19_found} {fu : Nat}
theorem LI.len (hv : ValidG g) (hN : statesN g ≤ 130) (h : LI g l) : l.length ≤ 130 := by
  have := states_count (g := g) (l := l.map fun e => e.s) (List.pairwise_map.2 h.d) fun s hs => by
    obtain ⟨e, he, rfl⟩ := List.mem_map.1 hs
    exact ((h.r e he).prop hv).1
  rw [List.length_map] at this
  omega
end
end Go.Pw
