/-
  Marks on atoms and fluents, in plain Lean: the program's marking by operators.
-/
import Derived.Test.YtkfcbmecmdpilaaSxVA
set_option maxHeartbeats 8000000
set_option linter.unusedSimpArgs false
set_option linter.unusedVariables false
namespace Go.Pw
/-- What a row marks. -/
def Mk (A : List Bool) (i : Int) : Prop := 0 ≤ i ∧ A[i.toNat]? = some true
theorem MarkS.mkI {A A' : List Bool} {S : Int → Prop} (h : MarkS A A' S) (i : Int) : Mk A' i ↔ Mk A i ∨ (0 ≤ i ∧ i < (A.length : Int) ∧ S i) := by
  unfold Mk
  rw [h.iff]
  constructor
  · rintro ⟨h0, a | ⟨a, b⟩⟩
    · exact .inl ⟨h0, a⟩
    · rw [Int.toNat_of_nonneg h0] at b
      exact .inr ⟨h0, by omega, b⟩
  · rintro (⟨h0, a⟩ | ⟨h0, h1, b⟩)
    · exact ⟨h0, .inl a⟩
    · exact ⟨h0, .inr ⟨by omega, by rw [Int.toNat_of_nonneg h0]; exact b⟩⟩
structure Grow (A F A' F' : List Bool) : Prop where
  la : A'.length = A.length
  lf : F'.length = F.length
  ua : ∀ i, Mk A i → Mk A' i
  uf : ∀ i, Mk F i → Mk F' i
theorem Grow.refl (A F : List Bool) : Grow A F A F := ⟨rfl, rfl, fun _ h => h, fun _ h => h⟩
theorem Grow.trans {A F B G C K : List Bool} (h : Grow A F B G) (k : Grow B G C K) : Grow A F C K := ⟨by rw [k.la, h.la], by rw [k.lf, h.lf], fun i q => k.ua i (h.ua i q), fun i q => k.uf i (h.uf i q)⟩
theorem mk_nat' {A : List Bool} {i : Nat} : Mk A (i : Int) ↔ A[i]? = some true := by unfold Mk; simp
theorem Grow.cnt {A F A' F' : List Bool} (h : Grow A F A' F') : (cnt A ≤ cnt A' ∧ (cnt A = cnt A' → A' = A)) ∧ cnt F ≤ cnt F' ∧ (cnt F = cnt F' → F' = F) :=
  ⟨cnt_mono h.la fun i q => mk_nat'.1 (h.ua _ (mk_nat'.2 q)), cnt_mono h.lf fun i q => mk_nat'.1 (h.uf _ (mk_nat'.2 q))⟩
theorem Grow.anti {A F B G : List Bool} (h : Grow A F B G) (k : Grow B G A F) : B = A ∧ G = F := by
  have h1 := h.cnt
  have h2 := k.cnt
  exact ⟨h1.1.2 (by omega), h1.2.2 (by omega)⟩
/-- What the program's flag says of both rows. -/
structure FlagP (z : Bool) (A F : List Bool) (z' : Bool) (A' F' : List Bool) : Prop where
  q : z' = false → z = false ∧ A' = A ∧ F' = F
  t : z' = true → z = true ∨ cnt A + cnt F < cnt A' + cnt F'
theorem FlagP.refl (z : Bool) (A F : List Bool) : FlagP z A F z A F := ⟨fun h => ⟨h, rfl, rfl⟩, fun h => .inl h⟩
theorem FlagP.trans {z z' z'' : Bool} {A F B G C K : List Bool} (h : FlagP z A F z' B G) (k : FlagP z' B G z'' C K) (m : Grow A F B G) (n : Grow B G C K) : FlagP z A F z'' C K := by
  have h1 := m.cnt
  have h2 := n.cnt
  refine ⟨fun e => ?_, fun e => ?_⟩
  · obtain ⟨a, b, c⟩ := k.q e
    obtain ⟨d, e, f⟩ := h.q a
    exact ⟨d, b.trans e, c.trans f⟩
  · rcases k.t e with a | a
    · rcases h.t a with b | b
      · exact .inl b
      · exact .inr (by omega)
    · exact .inr (by omega)
theorem Flag.a {z z' : Bool} {A A' F : List Bool} (h : Flag z A z' A') : FlagP z A F z' A' F := ⟨fun e => ⟨(h.q e).1, (h.q e).2, rfl⟩, fun e => (h.t e).imp id fun q => by omega⟩
theorem Flag.f {z z' : Bool} {A F F' : List Bool} (h : Flag z F z' F') : FlagP z A F z' A F' := ⟨fun e => ⟨(h.q e).1, rfl, (h.q e).2⟩, fun e => (h.t e).imp id fun q => by omega⟩
theorem MarkS.ga {A A' F : List Bool} {S : Int → Prop} (h : MarkS A A' S) : Grow A F A' F := ⟨h.len, rfl, fun i q => (h.mkI i).2 (.inl q), fun _ q => q⟩
theorem MarkS.gf {A F F' : List Bool} {S : Int → Prop} (h : MarkS F F' S) : Grow A F A F' := ⟨rfl, h.len, fun _ q => q, fun i q => (h.mkI i).2 (.inl q)⟩
theorem Asc.rng {l : List Int} {n : Int} (h : Asc l n) {x : Int} (hx : x ∈ l) : 0 ≤ x ∧ x < n := by
  obtain ⟨i, hi, rfl⟩ := List.getElem_of_mem hx
  have := h i _ (List.getElem?_eq_getElem hi)
  exact ⟨this.1, this.2.1⟩
theorem CondOK.at {na nf : Int} {c : Cond} (h : CondOK na nf c) {i : Int} (q : CAt c i) : 0 ≤ i ∧ i < na := q.elim (fun q => h.p.rng q) (fun q => h.n.rng q)
theorem CondOK.fl {na nf : Int} {c : Cond} (h : CondOK na nf c) {i : Int} (q : CFl c i) : 0 ≤ i ∧ i < nf := by
  obtain ⟨t, ht, q | q⟩ := q
  · exact (h.t t ht).2.1.fl q
  · exact (h.t t ht).2.2.fl q
section
variable {fu : Nat} {A F : List Bool} {z : Bool}
theorem marks_loop {l : List Int} (hl : ∀ x ∈ l, 0 ≤ x ∧ x < (A.length : Int)) (F : List Bool) :
    Ok (forS (fun i100 => un2 fun (z100 : Bool) (l100 : (List Bool)) => (idx l (i100 : Int)).bind fun x100 =>
      (simplify_sets_mark_p (⟨l100, F, z100⟩ : simplify_sets) x100).bind <| un2 fun (z101 : Bool) (l101 : (List Bool)) => some (z101, l101)) l.length 0 (z, A)) fun r => MarkS A r.2 (fun i => i ∈ l) ∧ Flag z A r.1 r.2 := by
  refine Ok.forS (fun j (q : Bool × List Bool) => MarkS A q.2 (fun i => i ∈ l.take j) ∧ Flag z A q.1 q.2) ⟨MarkS.refl A (by simp), Flag.refl z A⟩ ?_ ?_
  · rintro j ⟨z1, A1⟩ hj ⟨h1, h2⟩
    simp only at h1 h2
    obtain ⟨x, hx⟩ := get_len hj
    have hr := hl x (List.mem_of_getElem? hx)
    simp only [un2, idx_nat, hx, Option.bind_some]
    refine Ok.bind ((mark_a hr.1 (by rw [h1.len]; exact hr.2)).mono ?_)
    rintro ⟨z2, A2⟩ ⟨m1, m2⟩
    simp only at m1 m2
    refine Ok.ret ⟨(h1.trans m1).congr fun i _ _ => ?_, h2.trans m2 h1.cnt.1 m1.cnt.1⟩
    rw [take_snoc hx]; simp
  · rintro ⟨z1, A1⟩ ⟨h1, h2⟩
    rw [List.take_length] at h1
    exact ⟨h1, h2⟩
theorem mcond_ok {c : Cond} (hc : CondOK (A.length : Int) (F.length : Int) c) (hs : SizeOf.sizeOf c ≤ fu) :
    Ok (simplify_sets_cond_p fu ⟨A, F, z⟩ c) fun r => MarkS A r.2.1 (CAt c) ∧ MarkS F r.2.2 (CFl c) ∧ FlagP z A F r.1 r.2.1 r.2.2 := by
  unfold simplify_sets_cond_p
  refine Ok.bind ((marks_loop (fun x hx => hc.p.rng hx) F).mono ?_)
  rintro ⟨z1, A1⟩ ⟨a1, a2⟩
  simp only at a1 a2
  simp only [un2]
  refine Ok.bind ((marks_loop (A := A1) (z := z1) (fun x hx => by rw [a1.len]; exact hc.n.rng hx) F).mono ?_)
  rintro ⟨z2, A2⟩ ⟨b1, b2⟩
  simp only at b1 b2
  have hA : MarkS A A2 (CAt c) := (a1.trans b1).congr fun i _ _ => Iff.rfl
  refine Ok.bind (Ok.forS (fun j (q : Bool × List Bool) => MarkS F q.2 (fun i => ∃ t ∈ c.Tests.take j, FL t.A i ∨ FL t.B i) ∧ Flag z2 F q.1 q.2) ⟨MarkS.refl F (by simp), Flag.refl z2 F⟩ ?_ ?_)
  · rintro j ⟨z3, F3⟩ hj ⟨h1, h2⟩
    simp only at h1 h2
    obtain ⟨t, ht⟩ := get_len hj
    have hm := List.mem_of_getElem? ht
    have hz := test_size hm
    have hT := hc.t t hm
    simp only [un2, idx_nat, ht, Option.bind_some]
    refine Ok.bind ((mexpr_ok fu t.A (by omega) fun i hi => by rw [h1.len]; exact hT.2.1.fl hi).mono ?_)
    rintro ⟨z4, F4⟩ ⟨m1, m2⟩
    simp only at m1 m2
    simp only [un2]
    refine Ok.bind ((mexpr_ok fu t.B (by omega) fun i hi => by rw [m1.len, h1.len]; exact hT.2.2.fl hi).mono ?_)
    rintro ⟨z5, F5⟩ ⟨o1, o2⟩
    simp only at o1 o2
    refine Ok.ret ⟨((h1.trans m1).trans o1).congr fun i _ _ => ?_, (h2.trans m2 h1.cnt.1 m1.cnt.1).trans o2 (h1.trans m1).cnt.1 o1.cnt.1⟩
    rw [take_snoc ht]
    constructor
    · rintro ((⟨t', ht', q⟩ | q) | q)
      · exact ⟨t', by simp [ht'], q⟩
      · exact ⟨t, by simp, .inl q⟩
      · exact ⟨t, by simp, .inr q⟩
    · rintro ⟨t', ht', q⟩
      rcases List.mem_append.1 ht' with ht' | ht'
      · exact .inl (.inl ⟨t', ht', q⟩)
      · simp only [List.mem_singleton] at ht'; subst ht'
        rcases q with q | q
        · exact .inl (.inr q)
        · exact .inr q
  · rintro ⟨z3, F3⟩ ⟨h1, h2⟩
    simp only at h1 h2
    rw [List.take_length] at h1
    exact Ok.ret ⟨hA, h1, (((a2.a (F := F)).trans b2.a a1.ga b1.ga).trans h2.f (a1.trans b1).ga h1.gf)⟩
def Touch (RA RF : Int → Prop) (o : GOp) : Prop := (∃ c ∈ o.Changes, RA c.Atom) ∨ ∃ a ∈ o.Assigns, RF a.Fluent
def OpRule (o : GOp) (RA RF : Int → Prop) : Prop := Touch RA RF o → (∀ i, CAt o.Pre i → RA i) ∧ (∀ i, CFl o.Pre i → RF i) ∧ (∀ c ∈ o.Changes, RA c.Atom → (∀ i, CAt c.When i → RA i) ∧ ∀ i, CFl c.When i → RF i) ∧ ∀ a ∈ o.Assigns, RF a.Fluent ∧ ∀ i, FL a.Value i → RF i
theorem ass_rng {nf : Int} {o : GOp} (h : ∀ j, AssAt nf o.Assigns j) {a : GAssign} (ha : a ∈ o.Assigns) : 0 ≤ a.Fluent ∧ a.Fluent < nf ∧ RE nf a.Value := by
  obtain ⟨i, hi, rfl⟩ := List.getElem_of_mem ha
  have := h i _ (List.getElem?_eq_getElem hi)
  exact ⟨this.1, this.2.1, this.2.2.2⟩
open Classical in
theorem mtouch_ok {o : GOp} (ho : GOpOK (A.length : Int) (F.length : Int) o) : simplify_sets_touches_p ⟨A, F, z⟩ o = some (decide (Touch (Mk A) (Mk F) o)) := by
  unfold simplify_sets_touches_p
  obtain ⟨n1, e1, k1⟩ := find_ok (xs := o.Changes) (B := fun i100 => fun (_ : Unit) => (idx o.Changes (i100 : Int)).bind fun x100 => (simplify_sets_touches_c1_p x100 ⟨A, F, z⟩).bind <| fun (y100 : Bool) => if y100 then (some (Ctl.ret (i100 : Int))) else (some (Ctl.next ()))) (f := fun c => decide (Mk A c.Atom)) (by
    intro i c hc
    have hr := ho.chg c (List.mem_of_getElem? hc)
    have := hr.r0
    have := hr.r1
    obtain ⟨b, hb⟩ := get_len (xs := A) (i := c.Atom.toNat) (by omega)
    simp only [idx_nat, hc, Option.bind_some]
    unfold simplify_sets_touches_c1_p
    rw [idx_int hr.r0, hb]
    have : Mk A c.Atom ↔ b = true := by unfold Mk; rw [hb]; simp [hr.r0]
    cases b <;> simp [this])
  obtain ⟨n2, e2, k2⟩ := find_ok (xs := o.Assigns) (B := fun i100 => fun (_ : Unit) => (idx o.Assigns (i100 : Int)).bind fun x100 => (simplify_sets_touches_c2_p x100 ⟨A, F, z⟩).bind <| fun (y100 : Bool) => if y100 then (some (Ctl.ret (i100 : Int))) else (some (Ctl.next ()))) (f := fun a => decide (Mk F a.Fluent)) (by
    intro i a ha
    have hr := ass_rng ho.as (List.mem_of_getElem? ha)
    obtain ⟨b, hb⟩ := get_len (xs := F) (i := a.Fluent.toNat) (by omega)
    simp only [idx_nat, ha, Option.bind_some]
    unfold simplify_sets_touches_c2_p
    rw [idx_int hr.1, hb]
    have : Mk F a.Fluent ↔ b = true := by unfold Mk; rw [hb]; simp [hr.1]
    cases b <;> simp [this])
  have f1 : api_GChange__f108_p o.Changes ⟨A, F, z⟩ = some (decide (0 ≤ n1)) := by
    unfold api_GChange__f108_p api_GChange__f108_123_p
    rw [e1]; rfl
  have f2 : api_GAssign__f110_p o.Assigns ⟨A, F, z⟩ = some (decide (0 ≤ n2)) := by
    unfold api_GAssign__f110_p api_GAssign__f110_124_p
    rw [e2]; rfl
  rw [f1, f2]
  simp only [Option.bind_some]
  simp only [decide_eq_true_eq] at k1 k2
  by_cases b1 : 0 ≤ n1
  · rw [if_pos (decide_eq_true b1), decide_eq_true (show Touch (Mk A) (Mk F) o from .inl (k1.1 b1))]; rfl
  · rw [if_neg (by simpa using b1)]
    simp only [Option.bind_some]
    congr 1
    exact decide_eq_decide.2 ⟨fun q => .inr (k2.1 q), fun q => q.elim (fun q => absurd (k1.2 q) b1) k2.2⟩
end
end Go.Pw
/-
  Marks on atoms and fluents, in plain Lean: an operator, and the least closed marks.
-/
set_option maxHeartbeats 8000000
namespace Go.Pw
structure OpStep (A F : List Bool) (o : GOp) (A' F' : List Bool) : Prop where
  g : Grow A F A' F'
  s : ∀ RA RF : Int → Prop, OpRule o RA RF → Touch RA RF o → (∀ i, Mk A i → RA i) → (∀ i, Mk F i → RF i) → (∀ i, Mk A' i → RA i) ∧ ∀ i, Mk F' i → RF i
  q : A' = A → F' = F → OpRule o (Mk A) (Mk F)
/-- The parts of an operator's marking: A1 F1 after the precondition, A2 F2 after the changes, F3 after the assignments. -/
theorem opStep_of {A F A1 F1 A2 F2 F3 : List Bool} {o : GOp} (ho : GOpOK (A.length : Int) (F.length : Int) o) (p1 : MarkS A A1 (CAt o.Pre)) (p2 : MarkS F F1 (CFl o.Pre)) (g : Grow A1 F1 A2 F2)
    (s : ∀ RA RF : Int → Prop, OpRule o RA RF → Touch RA RF o → (∀ i, Mk A1 i → RA i) → (∀ i, Mk F1 i → RF i) → (∀ i, Mk A2 i → RA i) ∧ ∀ i, Mk F2 i → RF i)
    (d : ∀ c ∈ o.Changes, Mk A1 c.Atom → (∀ i, CAt c.When i → Mk A2 i) ∧ ∀ i, CFl c.When i → Mk F2 i)
    (m : MarkS F2 F3 (fun i => ∃ a ∈ o.Assigns, i = a.Fluent ∨ FL a.Value i)) : OpStep A F o A2 F3 := by
  have g1 : Grow A F A1 F1 := (p1.ga (F := F)).trans p2.gf
  have g3 : Grow A2 F2 A2 F3 := m.gf
  have gg := (g1.trans g).trans g3
  have hla : A1.length = A.length := g1.la
  have hlf : F1.length = F.length := g1.lf
  have hlf2 : F2.length = F.length := by rw [g.lf, hlf]
  refine ⟨gg, fun RA RF hR hT hA hF => ?_, fun e1 e2 hT => ?_⟩
  · obtain ⟨r1, r2, r3, r4⟩ := hR hT
    obtain ⟨s1, s2⟩ := s RA RF hR hT (fun i q => ((p1.mkI i).1 q).elim (hA i) fun q => r1 i q.2.2) (fun i q => ((p2.mkI i).1 q).elim (hF i) fun q => r2 i q.2.2)
    refine ⟨s1, fun i q => ((m.mkI i).1 q).elim (s2 i) ?_⟩
    rintro ⟨_, _, a, ha, rfl | hf⟩
    · exact (r4 a ha).1
    · exact (r4 a ha).2 i hf
  · subst e1 e2
    obtain ⟨ea, ef⟩ := g1.anti (g.trans g3)
    obtain ⟨eb, eg⟩ := (g1.trans g).anti g3
    refine ⟨fun i hi => ?_, fun i hi => ?_, fun c hc hm => ⟨fun i hi => ?_, fun i hi => ?_⟩, fun a ha => ⟨?_, fun i hi => ?_⟩⟩
    · have hr := ho.pre.at hi
      rw [← ea]
      exact (p1.mkI i).2 (.inr ⟨hr.1, hr.2, hi⟩)
    · have hr := ho.pre.fl hi
      rw [← ef]
      exact (p2.mkI i).2 (.inr ⟨hr.1, hr.2, hi⟩)
    · exact (d c hc (by rw [ea]; exact hm)).1 i hi
    · rw [← eg]
      exact (d c hc (by rw [ea]; exact hm)).2 i hi
    · have hr := ass_rng ho.as ha
      exact (m.mkI _).2 (.inr ⟨hr.1, by rw [hlf2]; exact hr.2.1, a, ha, .inl rfl⟩)
    · have hr := (ass_rng ho.as ha).2.2.fl hi
      exact (m.mkI _).2 (.inr ⟨hr.1, by rw [hlf2]; exact hr.2, a, ha, .inr hi⟩)
theorem mop_ok {fu : Nat} {A F : List Bool} {z : Bool} {o : GOp} (ho : GOpOK (A.length : Int) (F.length : Int) o) (hs : SizeOf.sizeOf o ≤ fu) :
    Ok (simplify_sets_operator_p fu ⟨A, F, z⟩ o) fun r => OpStep A F o r.2.1 r.2.2 ∧ FlagP z A F r.1 r.2.1 r.2.2 := by
  have hpre := pre_size o
  unfold simplify_sets_operator_p
  refine Ok.bind ((mcond_ok ho.pre (by omega)).mono ?_)
  rintro ⟨z1, A1, F1⟩ ⟨p1, p2, p3⟩
  simp only at p1 p2 p3
  have g1 : Grow A F A1 F1 := (p1.ga (F := F)).trans p2.gf
  have hla : A1.length = A.length := g1.la
  have hlf : F1.length = F.length := g1.lf
  simp only [un3]
  refine Ok.bind (Ok.forS (fun j (q : Bool × List Bool × List Bool) => Grow A1 F1 q.2.1 q.2.2 ∧ FlagP z1 A1 F1 q.1 q.2.1 q.2.2 ∧
    (∀ RA RF : Int → Prop, OpRule o RA RF → Touch RA RF o → (∀ i, Mk A1 i → RA i) → (∀ i, Mk F1 i → RF i) → (∀ i, Mk q.2.1 i → RA i) ∧ ∀ i, Mk q.2.2 i → RF i) ∧
    ∀ (k : Nat) c, k < j → o.Changes[k]? = some c → Mk A1 c.Atom → (∀ i, CAt c.When i → Mk q.2.1 i) ∧ ∀ i, CFl c.When i → Mk q.2.2 i)
    ⟨Grow.refl _ _, FlagP.refl _ _ _, fun _ _ _ _ h k => ⟨h, k⟩, fun k c hk => absurd hk (Nat.not_lt_zero k)⟩ ?_ ?_)
  · rintro j ⟨z2, A2, F2⟩ hj ⟨h1, h2, h3, h4⟩
    simp only at h1 h2 h3 h4
    obtain ⟨c, hc⟩ := get_len hj
    have hm := List.mem_of_getElem? hc
    have hcg := ho.chg c hm
    have hw := when_size hm
    have r0 := hcg.r0
    have r1 := hcg.r1
    have la2 : A2.length = A.length := by rw [h1.la, hla]
    have lf2 : F2.length = F.length := by rw [h1.lf, hlf]
    obtain ⟨b, hb⟩ := get_len (xs := A2) (i := c.Atom.toNat) (by omega)
    have hmk : Mk A2 c.Atom ↔ b = true := by unfold Mk; rw [hb]; simp [r0]
    simp only [un3, idx_nat, hc, Option.bind_some, idx_int r0, hb]
    cases b with
    | true =>
      simp only [if_true]
      refine Ok.bind (Ok.bind ((mcond_ok (A := A2) (F := F2) (z := z2) (fu := fu) (c := c.When) (by rw [la2, lf2]; exact hcg.w) (by omega)).mono ?_))
      rintro ⟨z3, A3, F3⟩ ⟨m1, m2, m3⟩
      simp only at m1 m2 m3
      have gm : Grow A2 F2 A3 F3 := (m1.ga (F := F2)).trans m2.gf
      refine Ok.ret (Ok.ret ⟨h1.trans gm, h2.trans m3 h1 gm, fun RA RF hR hT hA hF => ?_, fun k c' hk hc' hmk' => ?_⟩)
      · obtain ⟨s1, s2⟩ := h3 RA RF hR hT hA hF
        have hr := (hR hT).2.2.1 c hm (s1 _ (hmk.2 rfl))
        exact ⟨fun i q => ((m1.mkI i).1 q).elim (s1 i) fun q => hr.1 i q.2.2, fun i q => ((m2.mkI i).1 q).elim (s2 i) fun q => hr.2 i q.2.2⟩
      · by_cases e : k = j
        · subst e
          rw [hc] at hc'; cases hc'
          refine ⟨fun i hi => ?_, fun i hi => ?_⟩
          · have hr := hcg.w.at hi
            exact (m1.mkI i).2 (.inr ⟨hr.1, by rw [la2]; exact hr.2, hi⟩)
          · have hr := hcg.w.fl hi
            exact (m2.mkI i).2 (.inr ⟨hr.1, by rw [lf2]; exact hr.2, hi⟩)
        · obtain ⟨d1, d2⟩ := h4 k c' (by omega) hc' hmk'
          exact ⟨fun i hi => gm.ua i (d1 i hi), fun i hi => gm.uf i (d2 i hi)⟩
    | false =>
      simp only [Bool.false_eq_true, if_false, Option.bind_some]
      refine Ok.ret ⟨h1, h2, h3, fun k c' hk hc' hmk' => ?_⟩
      by_cases e : k = j
      · subst e
        rw [hc] at hc'; cases hc'
        have := hmk.1 (h1.ua _ hmk')
        cases this
      · exact h4 k c' (by omega) hc' hmk'
  · rintro ⟨z2, A2, F2⟩ ⟨h1, h2, h3, h4⟩
    simp only at h1 h2 h3 h4
    have la2 : A2.length = A.length := by rw [h1.la, hla]
    have lf2 : F2.length = F.length := by rw [h1.lf, hlf]
    simp only [un3]
    refine Ok.bind (Ok.forS (fun j (q : Bool × List Bool) => MarkS F2 q.2 (fun i => ∃ a ∈ o.Assigns.take j, i = a.Fluent ∨ FL a.Value i) ∧ Flag z2 F2 q.1 q.2) ⟨MarkS.refl F2 (by simp), Flag.refl z2 F2⟩ ?_ ?_)
    · rintro j ⟨z3, F3⟩ hj ⟨k1, k2⟩
      simp only at k1 k2
      obtain ⟨a, ha⟩ := get_len hj
      have hm := List.mem_of_getElem? ha
      have hr := ass_rng ho.as hm
      have hz := value_size hm
      have lf3 : F3.length = F.length := by rw [k1.len, lf2]
      simp only [un2, idx_nat, ha, Option.bind_some]
      refine Ok.bind ((mark_f hr.1 (by rw [lf3]; exact hr.2.1)).mono ?_)
      rintro ⟨z4, F4⟩ ⟨m1, m2⟩
      simp only at m1 m2
      simp only [un2]
      refine Ok.bind ((mexpr_ok fu a.Value (by omega) fun i hi => by rw [m1.len, lf3]; exact hr.2.2.fl hi).mono ?_)
      rintro ⟨z5, F5⟩ ⟨o1, o2⟩
      simp only at o1 o2
      refine Ok.ret ⟨((k1.trans m1).trans o1).congr fun i _ _ => ?_, (k2.trans m2 k1.cnt.1 m1.cnt.1).trans o2 (k1.trans m1).cnt.1 o1.cnt.1⟩
      rw [take_snoc ha]
      constructor
      · rintro ((⟨a', ha', q⟩ | q) | q)
        · exact ⟨a', by simp [ha'], q⟩
        · exact ⟨a, by simp, .inl q⟩
        · exact ⟨a, by simp, .inr q⟩
      · rintro ⟨a', ha', q⟩
        rcases List.mem_append.1 ha' with ha' | ha'
        · exact .inl (.inl ⟨a', ha', q⟩)
        · simp only [List.mem_singleton] at ha'; subst ha'
          rcases q with q | q
          · exact .inl (.inr q)
          · exact .inr q
    · rintro ⟨z3, F3⟩ ⟨k1, k2⟩
      simp only at k1 k2
      rw [List.take_length] at k1
      refine Ok.ret ⟨opStep_of ho p1 p2 h1 h3 (fun c hc hmk => ?_) k1, (p3.trans h2 g1 h1).trans k2.f (g1.trans h1) k1.gf⟩
      obtain ⟨i, hi, rfl⟩ := List.getElem_of_mem hc
      exact h4 i _ hi (List.getElem?_eq_getElem hi) hmk
/-- Marks that a task's rules leave as they are. -/
def Closed (g : Ground) (RA RF : Int → Prop) : Prop := (∀ c ∈ g.Goal, (∀ i, CAt c i → RA i) ∧ ∀ i, CFl c i → RF i) ∧ ∀ o ∈ g.Ops, OpRule o RA RF
structure Least (g : Ground) (A F : List Bool) : Prop where
  la : A.length = g.Atoms.length
  lf : F.length = g.Fluents.length
  c : Closed g (Mk A) (Mk F)
  s : ∀ RA RF : Int → Prop, Closed g RA RF → (∀ i, Mk A i → RA i) ∧ ∀ i, Mk F i → RF i
theorem mk_ext {A B : List Bool} (hl : A.length = B.length) (h : ∀ i, Mk A i ↔ Mk B i) : A = B := by
  apply List.ext_getElem?
  intro i
  have := h (i : Int)
  rw [mk_nat', mk_nat'] at this
  by_cases hi : i < A.length
  · obtain ⟨a, ha⟩ := get_len hi
    obtain ⟨b, hb⟩ := get_len (xs := B) (i := i) (by omega)
    rw [ha, hb] at this ⊢
    cases a <;> cases b <;> simp at this ⊢
  · rw [List.getElem?_eq_none (by omega), List.getElem?_eq_none (by omega)]
theorem Least.uniq {g : Ground} {A F B G : List Bool} (h : Least g A F) (k : Least g B G) : A = B ∧ F = G := by
  obtain ⟨h1, h2⟩ := h.s _ _ k.c
  obtain ⟨k1, k2⟩ := k.s _ _ h.c
  exact ⟨mk_ext (by rw [h.la, k.la]) fun i => ⟨h1 i, k1 i⟩, mk_ext (by rw [h.lf, k.lf]) fun i => ⟨h2 i, k2 i⟩⟩
end Go.Pw
/-
  The program's relevant atoms and fluents are the least closed marks, in plain Lean.
-/
set_option maxHeartbeats 8000000
namespace Go.Pw
theorem mk_rep {n : Nat} (i : Int) : ¬ Mk (List.replicate n false) i := by
  rintro ⟨_, h⟩
  rw [List.getElem?_replicate] at h
  split at h <;> simp at h
theorem cnt_le (A : List Bool) : cnt A ≤ A.length := List.count_le_length
/-- What holds of marks on the way. -/
structure Way (g : Ground) (A F : List Bool) : Prop where
  la : A.length = g.Atoms.length
  lf : F.length = g.Fluents.length
  s : ∀ RA RF : Int → Prop, Closed g RA RF → (∀ i, Mk A i → RA i) ∧ ∀ i, Mk F i → RF i
def GoalIn (g : Ground) (A F : List Bool) : Prop := ∀ c ∈ g.Goal, (∀ i, CAt c i → Mk A i) ∧ ∀ i, CFl c i → Mk F i
theorem GoalIn.grow {g : Ground} {A F A' F' : List Bool} (h : GoalIn g A F) (k : Grow A F A' F') : GoalIn g A' F' := fun c hc => ⟨fun i q => k.ua i ((h c hc).1 i q), fun i q => k.uf i ((h c hc).2 i q)⟩
theorem Way.cond {g : Ground} {A F A' F' : List Bool} {c : Cond} (h : Way g A F) (hc : c ∈ g.Goal) (a : MarkS A A' (CAt c)) (f : MarkS F F' (CFl c)) : Way g A' F' :=
  ⟨by rw [a.len, h.la], by rw [f.len, h.lf], fun RA RF hC => by
    obtain ⟨h1, h2⟩ := h.s RA RF hC
    have h3 := hC.1 c hc
    exact ⟨fun i q => ((a.mkI i).1 q).elim (h1 i) fun q => h3.1 i q.2.2, fun i q => ((f.mkI i).1 q).elim (h2 i) fun q => h3.2 i q.2.2⟩⟩
theorem Way.op {g : Ground} {A F A' F' : List Bool} {o : GOp} (h : Way g A F) (ho : o ∈ g.Ops) (k : OpStep A F o A' F') (hT : Touch (Mk A) (Mk F) o) : Way g A' F' :=
  ⟨by rw [k.g.la, h.la], by rw [k.g.lf, h.lf], fun RA RF hC => by
    obtain ⟨h1, h2⟩ := h.s RA RF hC
    refine k.s RA RF (hC.2 o ho) (hT.imp ?_ ?_) h1 h2
    · rintro ⟨c, hc, hm⟩; exact ⟨c, hc, h1 _ hm⟩
    · rintro ⟨a, ha, hm⟩; exact ⟨a, ha, h2 _ hm⟩⟩
section
variable {fu : Nat} {g : Ground}
theorem Way.start : Way g (List.replicate g.Atoms.length false) (List.replicate g.Fluents.length false) :=
  ⟨by simp, by simp, fun _ _ _ => ⟨fun i q => absurd q (mk_rep i), fun i q => absurd q (mk_rep i)⟩⟩
theorem mrelevant_ok (hv : ValidG g) (hs : SizeOf.sizeOf g ≤ fu) : Ok (simplify_relevant_p fu g) fun s => Least g s.atoms s.fluents := by
  have ha := hv.a
  have hf := hv.f
  unfold simplify_relevant_p
  rw [mk_ok (n := g.Atoms.length) (by omega) (by omega), mk_ok (n := g.Fluents.length) (by omega) (by omega)]
  simp only [Option.bind_some]
  refine Ok.bind (Ok.forS (fun j (q : Bool × List Bool × List Bool) => Way g q.2.1 q.2.2 ∧ ∀ (k : Nat) c, k < j → g.Goal[k]? = some c → (∀ i, CAt c i → Mk q.2.1 i) ∧ ∀ i, CFl c i → Mk q.2.2 i)
    ⟨Way.start, fun k c hk => absurd hk (Nat.not_lt_zero k)⟩ ?_ ?_)
  · rintro j ⟨z, A, F⟩ hj ⟨h1, h2⟩
    simp only at h1 h2
    obtain ⟨c, hc⟩ := get_len hj
    have hm := List.mem_of_getElem? hc
    have hz := goal_size hm
    have hC := hv.goal c hm
    simp only [un3, idx_nat, hc, Option.bind_some]
    refine Ok.bind ((mcond_ok (A := A) (F := F) (z := z) (fu := fu) (c := c) (by rw [h1.la, h1.lf]; exact hC) (by omega)).mono ?_)
    rintro ⟨z1, A1, F1⟩ ⟨m1, m2, _⟩
    simp only at m1 m2
    have gm : Grow A F A1 F1 := (m1.ga (F := F)).trans m2.gf
    refine Ok.ret ⟨h1.cond hm m1 m2, fun k c' hk hc' => ?_⟩
    by_cases e : k = j
    · subst e
      rw [hc] at hc'; cases hc'
      refine ⟨fun i hi => ?_, fun i hi => ?_⟩
      · have hr := hC.at hi
        exact (m1.mkI i).2 (.inr ⟨hr.1, by rw [h1.la]; exact hr.2, hi⟩)
      · have hr := hC.fl hi
        exact (m2.mkI i).2 (.inr ⟨hr.1, by rw [h1.lf]; exact hr.2, hi⟩)
    · obtain ⟨d1, d2⟩ := h2 k c' (by omega) hc'
      exact ⟨fun i hi => gm.ua i (d1 i hi), fun i hi => gm.uf i (d2 i hi)⟩
  rintro ⟨z0, A0, F0⟩ ⟨h1, h2⟩
  simp only at h1 h2
  have hg0 : GoalIn g A0 F0 := fun c hc => by
    obtain ⟨i, hi, rfl⟩ := List.getElem_of_mem hc
    exact h2 i _ hi (List.getElem?_eq_getElem hi)
  simp only [un3]
  refine Ok.while (fun q : Bool × List Bool × List Bool => Way g q.2.1 q.2.2 ∧ GoalIn g q.2.1 q.2.2 ∧ (q.1 = false → ∀ o ∈ g.Ops, OpRule o (Mk q.2.1) (Mk q.2.2)))
    (fun q => Way g q.2.1 q.2.2 ∧ GoalIn g q.2.1 q.2.2 ∧ ∀ o ∈ g.Ops, OpRule o (Mk q.2.1) (Mk q.2.2)) (fun _ => False)
    (fun q => 2 * (g.Atoms.length + g.Fluents.length - (cnt q.2.1 + cnt q.2.2)) + q.1.toNat) ⟨h1, hg0, fun h => by cases h⟩ ?_ (fun _ h => h.elim) ?_
  · rintro ⟨z, A, F⟩ ⟨w, gi, hz⟩
    simp only at w gi hz
    cases z with
    | false =>
      refine ⟨.brk (false, A, F), by simp only [un3, Bool.false_eq_true, if_false], fun s' e => (by cases e), fun s' e => ?_, fun r e => (by cases e)⟩
      cases e; exact ⟨w, gi, hz rfl⟩
    | true =>
      have loop : Ok (forS (fun i101 => un3 fun (z103 : Bool) (l108 : (List Bool)) (l109 : (List Bool)) => (idx g.Ops (i101 : Int)).bind fun x101 =>
          (simplify_sets_touches_p (⟨l108, l109, z103⟩ : simplify_sets) x101).bind <| fun (y100 : Bool) =>
          (if y100 then ((simplify_sets_operator_p fu (⟨l108, l109, z103⟩ : simplify_sets) x101).bind <| un3 fun (z104 : Bool) (l110 : (List Bool)) (l111 : (List Bool)) =>
          some (z104, l110, l111))
          else (some (z103, l108, l109))).bind (un3 fun (z105 : Bool) (l112 : (List Bool)) (l113 : (List Bool)) => some (z105, l112, l113))) (g.Ops.length) 0 (false, A, F))
          fun q => Way g q.2.1 q.2.2 ∧ Grow A F q.2.1 q.2.2 ∧ FlagP false A F q.1 q.2.1 q.2.2 ∧ (q.2.1 = A → q.2.2 = F → ∀ o ∈ g.Ops, OpRule o (Mk A) (Mk F)) := by
        refine Ok.forS (fun j (q : Bool × List Bool × List Bool) => Way g q.2.1 q.2.2 ∧ Grow A F q.2.1 q.2.2 ∧ FlagP false A F q.1 q.2.1 q.2.2 ∧ (q.2.1 = A → q.2.2 = F → ∀ (k : Nat) o, k < j → g.Ops[k]? = some o → OpRule o (Mk A) (Mk F)))
          ⟨w, Grow.refl _ _, FlagP.refl _ _ _, fun _ _ k o hk => absurd hk (Nat.not_lt_zero k)⟩ ?_ ?_
        · rintro j ⟨z1, A1, F1⟩ hj ⟨k1, k2, k3, k4⟩
          simp only at k1 k2 k3 k4
          obtain ⟨o, ho⟩ := get_len hj
          have hm := List.mem_of_getElem? ho
          have hsz := op_size hm
          have hO : GOpOK (A1.length : Int) (F1.length : Int) o := by rw [k1.la, k1.lf]; exact hv.op o hm
          simp only [un3, idx_nat, ho, Option.bind_some]
          rw [mtouch_ok hO]
          simp only [Option.bind_some]
          by_cases hT : Touch (Mk A1) (Mk F1) o
          · simp only [hT, decide_true, if_true]
            refine Ok.bind (Ok.bind ((mop_ok (fu := fu) (z := z1) hO (by omega)).mono ?_))
            rintro ⟨z2, A2, F2⟩ ⟨m1, m2⟩
            simp only at m1 m2
            refine Ok.ret (Ok.ret ⟨k1.op hm m1 hT, k2.trans m1.g, k3.trans m2 k2 m1.g, fun e1 e2 k o' hk ho' => ?_⟩)
            simp only at e1 e2
            subst e1 e2
            obtain ⟨ea, ef⟩ := k2.anti m1.g
            by_cases e : k = j
            · subst e
              rw [ho] at ho'; cases ho'
              have := m1.q ea.symm ef.symm
              rw [ea, ef] at this
              exact this
            · exact k4 ea ef k o' (by omega) ho'
          · simp only [hT, decide_false, Bool.false_eq_true, if_false, Option.bind_some]
            refine Ok.ret ⟨k1, k2, k3, fun e1 e2 k o' hk ho' => ?_⟩
            simp only at e1 e2
            by_cases e : k = j
            · subst e
              rw [ho] at ho'; cases ho'
              intro hT'
              rw [e1, e2] at hT
              exact absurd hT' hT
            · exact k4 e1 e2 k o' (by omega) ho'
        · rintro ⟨z1, A1, F1⟩ ⟨k1, k2, k3, k4⟩
          refine ⟨k1, k2, k3, fun e1 e2 o ho => ?_⟩
          obtain ⟨i, hi, rfl⟩ := List.getElem_of_mem ho
          exact k4 e1 e2 i _ hi (List.getElem?_eq_getElem hi)
      obtain ⟨⟨z1, A1, F1⟩, hl, k1, k2, k3, k4⟩ := loop
      simp only at k1 k2 k3 k4
      refine ⟨.next (z1, A1, F1), ?_, fun s' e => ?_, fun s' e => (by cases e), fun r e => (by cases e)⟩
      · simp only [un3, if_true]
        rw [hl]
        rfl
      · cases e
        refine ⟨⟨k1, gi.grow k2, fun e => ?_⟩, ?_⟩
        · simp only at e
          obtain ⟨_, e1, e2⟩ := k3.q e
          have := k4 e1 e2
          rw [← e1, ← e2] at this
          exact this
        · have c1 := cnt_le A1
          have c2 := cnt_le F1
          have l1 := k1.la
          have l2 := k1.lf
          show 2 * (g.Atoms.length + g.Fluents.length - (cnt A1 + cnt F1)) + z1.toNat < 2 * (g.Atoms.length + g.Fluents.length - (cnt A + cnt F)) + true.toNat
          cases z1 with
          | false =>
            obtain ⟨_, e1, e2⟩ := k3.q rfl
            rw [e1, e2]
            simp
          | true =>
            have := (k3.t rfl).resolve_left (by simp)
            simp only [Bool.toNat_true]
            omega
  · rintro ⟨z, A, F⟩ ⟨w, gi, hR⟩
    exact Ok.ret ⟨w.la, w.lf, ⟨gi, hR⟩, w.s⟩
end
end Go.Pw
/-
  The reference's relevant atoms and fluents are the least closed marks, in plain Lean: expressions, conditions, operators.
-/
set_option maxHeartbeats 8000000
namespace Go.Pw
theorem WFE.kids {e : GExpr} (h : WFE e) : e.Kids.length ≤ 9223372036854775807 ∧ ∀ k ∈ e.Kids, WFE k := by
  cases h with
  | mk a b => exact ⟨a, b⟩
section
variable {fu : Nat} {A F : List Bool}
end
end Go.Pw
