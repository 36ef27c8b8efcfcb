/-
  Marks on atoms and fluents, in plain Lean: an operator, and the least closed marks.
-/
import Derived.Test.YtkfcbmecmdpilaaSrVe
set_option maxHeartbeats 8000000
set_option linter.unusedSimpArgs false
set_option linter.unusedVariables false
namespace Go.Pw
structure OpStep (A F : List Bool) (o : GOp) (A' F' : List Bool) : Prop where
  g : Grow A F A' F'
  s : ∀ RA RF : Int → Prop, OpRule o RA RF → Touch RA RF o → (∀ i, Mk A i → RA i) → (∀ i, Mk F i → RF i) → (∀ i, Mk A' i → RA i) ∧ ∀ i, Mk F' i → RF i
  q : A' = A → F' = F → OpRule o (Mk A) (Mk F)
/-- The parts of an operator's marking: A1 F1 after the precondition, A2 F2 after the changes, F3 after the assignments. -/
theorem opStep_of {A F A1 F1 A2 F2 F3 : List Bool} {o : GOp} (ho : GOpOK (A.length : Int) (F.length : Int) o) (p1 : MarkS A A1 (CAt o.Pre)) (p2 : MarkS F F1 (CFl o.Pre)) (g : Grow A1 F1 A2 F2)
    (s : ∀ RA RF : Int → Prop, OpRule o RA RF → Touch RA RF o → (∀ i, Mk A1 i → RA i) → (∀ i, Mk F1 i → RF i) → (∀ i, Mk A2 i → RA i) ∧ ∀ i, Mk F2 i → RF i)
    (d : ∀ c ∈ o.Changes, Mk A1 c.Atom → (∀ i, CAt c.When i → Mk A2 i) ∧ ∀ i, CFl c.When i → Mk F2 i)
    (m : MarkS F2 F3 (fun i => ∃ a ∈ o.Assigns, i = a.Fluent ∨ FL a.Value i)) : OpStep A F o A2 F3 := by
  have g1 : Grow A F A1 F1 := (p1.ga (F := F)).trans p2.gf
  have g3 : Grow A2 F2 A2 F3 := m.gf
  have gg := (g1.trans g).trans g3
  have hla : A1.length = A.length := g1.la
  have hlf : F1.length = F.length := g1.lf
  have hlf2 : F2.length = F.length := by rw [g.lf, hlf]
  refine ⟨gg, fun RA RF hR hT hA hF => ?_, fun e1 e2 hT => ?_⟩
  · obtain ⟨r1, r2, r3, r4⟩ := hR hT
    obtain ⟨s1, s2⟩ := s RA RF hR hT (fun i q => ((p1.mkI i).1 q).elim (hA i) fun q => r1 i q.2.2) (fun i q => ((p2.mkI i).1 q).elim (hF i) fun q => r2 i q.2.2)
    refine ⟨s1, fun i q => ((m.mkI i).1 q).elim (s2 i) ?_⟩
    rintro ⟨_, _, a, ha, rfl | hf⟩
    · exact (r4 a ha).1
    · exact (r4 a ha).2 i hf
  · subst e1 e2
    obtain ⟨ea, ef⟩ := g1.anti (g.trans g3)
    obtain ⟨eb, eg⟩ := (g1.trans g).anti g3
    refine ⟨fun i hi => ?_, fun i hi => ?_, fun c hc hm => ⟨fun i hi => ?_, fun i hi => ?_⟩, fun a ha => ⟨?_, fun i hi => ?_⟩⟩
    · have hr := ho.pre.at hi
      rw [← ea]
      exact (p1.mkI i).2 (.inr ⟨hr.1, hr.2, hi⟩)
    · have hr := ho.pre.fl hi
      rw [← ef]
      exact (p2.mkI i).2 (.inr ⟨hr.1, hr.2, hi⟩)
    · exact (d c hc (by rw [ea]; exact hm)).1 i hi
    · rw [← eg]
      exact (d c hc (by rw [ea]; exact hm)).2 i hi
    · have hr := ass_rng ho.as ha
      exact (m.mkI _).2 (.inr ⟨hr.1, by rw [hlf2]; exact hr.2.1, a, ha, .inl rfl⟩)
    · have hr := (ass_rng ho.as ha).2.2.fl hi
      exact (m.mkI _).2 (.inr ⟨hr.1, by rw [hlf2]; exact hr.2, a, ha, .inr hi⟩)
theorem mop_ok {fu : Nat} {A F : List Bool} {z : Bool} {o : GOp} (ho : GOpOK (A.length : Int) (F.length : Int) o) (hs : SizeOf.sizeOf o ≤ fu) :
    Ok (simplify_sets_operator_p fu ⟨A, F, z⟩ o) fun r => OpStep A F o r.2.1 r.2.2 ∧ FlagP z A F r.1 r.2.1 r.2.2 := by
  have hpre := pre_size o
  unfold simplify_sets_operator_p
  refine Ok.bind ((mcond_ok ho.pre (by omega)).mono ?_)
  rintro ⟨z1, A1, F1⟩ ⟨p1, p2, p3⟩
  simp only at p1 p2 p3
  have g1 : Grow A F A1 F1 := (p1.ga (F := F)).trans p2.gf
  have hla : A1.length = A.length := g1.la
  have hlf : F1.length = F.length := g1.lf
  simp only [un3]
  refine Ok.bind (Ok.forS (fun j (q : Bool × List Bool × List Bool) => Grow A1 F1 q.2.1 q.2.2 ∧ FlagP z1 A1 F1 q.1 q.2.1 q.2.2 ∧
    (∀ RA RF : Int → Prop, OpRule o RA RF → Touch RA RF o → (∀ i, Mk A1 i → RA i) → (∀ i, Mk F1 i → RF i) → (∀ i, Mk q.2.1 i → RA i) ∧ ∀ i, Mk q.2.2 i → RF i) ∧
    ∀ (k : Nat) c, k < j → o.Changes[k]? = some c → Mk A1 c.Atom → (∀ i, CAt c.When i → Mk q.2.1 i) ∧ ∀ i, CFl c.When i → Mk q.2.2 i)
    ⟨Grow.refl _ _, FlagP.refl _ _ _, fun _ _ _ _ h k => ⟨h, k⟩, fun k c hk => absurd hk (Nat.not_lt_zero k)⟩ ?_ ?_)
  · rintro j ⟨z2, A2, F2⟩ hj ⟨h1, h2, h3, h4⟩
    simp only at h1 h2 h3 h4
    obtain ⟨c, hc⟩ := get_len hj
    have hm := List.mem_of_getElem? hc
    have hcg := ho.chg c hm
    have hw := when_size hm
    have r0 := hcg.r0
    have r1 := hcg.r1
    have la2 : A2.length = A.length := by rw [h1.la, hla]
    have lf2 : F2.length = F.length := by rw [h1.lf, hlf]
    obtain ⟨b, hb⟩ := get_len (xs := A2) (i := c.Atom.toNat) (by omega)
    have hmk : Mk A2 c.Atom ↔ b = true := by unfold Mk; rw [hb]; simp [r0]
    simp only [un3, idx_nat, hc, Option.bind_some, idx_int r0, hb]
    cases b with
    | true =>
      simp only [if_true]
      refine Ok.bind (Ok.bind ((mcond_ok (A := A2) (F := F2) (z := z2) (fu := fu) (c := c.When) (by rw [la2, lf2]; exact hcg.w) (by omega)).mono ?_))
      rintro ⟨z3, A3, F3⟩ ⟨m1, m2, m3⟩
      simp only at m1 m2 m3
      have gm : Grow A2 F2 A3 F3 := (m1.ga (F := F2)).trans m2.gf
      refine Ok.ret (Ok.ret ⟨h1.trans gm, h2.trans m3 h1 gm, fun RA RF hR hT hA hF => ?_, fun k c' hk hc' hmk' => ?_⟩)
      · obtain ⟨s1, s2⟩ := h3 RA RF hR hT hA hF
        have hr := (hR hT).2.2.1 c hm (s1 _ (hmk.2 rfl))
        exact ⟨fun i q => ((m1.mkI i).1 q).elim (s1 i) fun q => hr.1 i q.2.2, fun i q => ((m2.mkI i).1 q).elim (s2 i) fun q => hr.2 i q.2.2⟩
      · by_cases e : k = j
        · subst e
          rw [hc] at hc'; cases hc'
          refine ⟨fun i hi => ?_, fun i hi => ?_⟩
          · have hr := hcg.w.at hi
            exact (m1.mkI i).2 (.inr ⟨hr.1, by rw [la2]; exact hr.2, hi⟩)
          · have hr := hcg.w.fl hi
            exact (m2.mkI i).2 (.inr ⟨hr.1, by rw [lf2]; exact hr.2, hi⟩)
        · obtain ⟨d1, d2⟩ := h4 k c' (by omega) hc' hmk'
          exact ⟨fun i hi => gm.ua i (d1 i hi), fun i hi => gm.uf i (d2 i hi)⟩
    | false =>
      simp only [Bool.false_eq_true, if_false, Option.bind_some]
      refine Ok.ret ⟨h1, h2, h3, fun k c' hk hc' hmk' => ?_⟩
      by_cases e : k = j
      · subst e
        rw [hc] at hc'; cases hc'
        have := hmk.1 (h1.ua _ hmk')
        cases this
      · exact h4 k c' (by omega) hc' hmk'
  · rintro ⟨z2, A2, F2⟩ ⟨h1, h2, h3, h4⟩
    simp only at h1 h2 h3 h4
    have la2 : A2.length = A.length := by rw [h1.la, hla]
    have lf2 : F2.length = F.length := by rw [h1.lf, hlf]
    simp only [un3]
    refine Ok.bind (Ok.forS (fun j (q : Bool × List Bool) => MarkS F2 q.2 (fun i => ∃ a ∈ o.Assigns.take j, i = a.Fluent ∨ FL a.Value i) ∧ Flag z2 F2 q.1 q.2) ⟨MarkS.refl F2 (by simp), Flag.refl z2 F2⟩ ?_ ?_)
    · rintro j ⟨z3, F3⟩ hj ⟨k1, k2⟩
      simp only at k1 k2
      obtain ⟨a, ha⟩ := get_len hj
      have hm := List.mem_of_getElem? ha
      have hr := ass_rng ho.as hm
      have hz := value_size hm
      have lf3 : F3.length = F.length := by rw [k1.len, lf2]
      simp only [un2, idx_nat, ha, Option.bind_some]
      refine Ok.bind ((mark_f hr.1 (by rw [lf3]; exact hr.2.1)).mono ?_)
      rintro ⟨z4, F4⟩ ⟨m1, m2⟩
      simp only at m1 m2
      simp only [un2]
      refine Ok.bind ((mexpr_ok fu a.Value (by omega) fun i hi => by rw [m1.len, lf3]; exact hr.2.2.fl hi).mono ?_)
      rintro ⟨z5, F5⟩ ⟨o1, o2⟩
      simp only at o1 o2
      refine Ok.ret ⟨((k1.trans m1).trans o1).congr fun i _ _ => ?_, (k2.trans m2 k1.cnt.1 m1.cnt.1).trans o2 (k1.trans m1).cnt.1 o1.cnt.1⟩
      rw [take_snoc ha]
      constructor
      · rintro ((⟨a', ha', q⟩ | q) | q)
        · exact ⟨a', by simp [ha'], q⟩
        · exact ⟨a, by simp, .inl q⟩
        · exact ⟨a, by simp, .inr q⟩
      · rintro ⟨a', ha', q⟩
        rcases List.mem_append.1 ha' with ha' | ha'
        · exact .inl (.inl ⟨a', ha', q⟩)
        · simp only [List.mem_singleton] at ha'; subst ha'
          rcases q with q | q
          · exact .inl (.inr q)
          · exact .inr q
    · rintro ⟨z3, F3⟩ ⟨k1, k2⟩
      simp only at k1 k2
      rw [List.take_length] at k1
      refine Ok.ret ⟨opStep_of ho p1 p2 h1 h3 (fun c hc hmk => ?_) k1, (p3.trans h2 g1 h1).trans k2.f (g1.trans h1) k1.gf⟩
      obtain ⟨i, hi, rfl⟩ := List.getElem_of_mem hc
      exact h4 i _ hi (List.getElem?_eq_getElem hi) hmk
/-- Marks that a task's rules leave as they are. -/
def Closed (g : Ground) (RA RF : Int → Prop) : Prop := (∀ c ∈ g.Goal, (∀ i, CAt c i → RA i) ∧ ∀ i, CFl c i → RF i) ∧ ∀ o ∈ g.Ops, OpRule o RA RF
structure Least (g : Ground) (A F : List Bool) : Prop where
  la : A.length = g.Atoms.length
  lf : F.length = g.Fluents.length
  c : Closed g (Mk A) (Mk F)
  s : ∀ RA RF : Int → Prop, Closed g RA RF → (∀ i, Mk A i → RA i) ∧ ∀ i, Mk F i → RF i
theorem mk_ext {A B : List Bool} (hl : A.length = B.length) (h : ∀ i, Mk A i ↔ Mk B i) : A = B := by
  apply List.ext_getElem?
  intro i
  have := h (i : Int)
  rw [mk_nat', mk_nat'] at this
  by_cases hi : i < A.length
  · obtain ⟨a, ha⟩ := get_len hi
    obtain ⟨b, hb⟩ := get_len (xs := B) (i := i) (by omega)
    rw [ha, hb] at this ⊢
    cases a <;> cases b <;> simp at this ⊢
  · rw [List.getElem?_eq_none (by omega), List.getElem?_eq_none (by omega)]
theorem Least.uniq {g : Ground} {A F B G : List Bool} (h : Least g A F) (k : Least g B G) : A = B ∧ F = G := by
  obtain ⟨h1, h2⟩ := h.s _ _ k.c
  obtain ⟨k1, k2⟩ := k.s _ _ h.c
  exact ⟨mk_ext (by rw [h.la, k.la]) fun i => ⟨h1 i, k1 i⟩, mk_ext (by rw [h.lf, k.lf]) fun i => ⟨h2 i, k2 i⟩⟩
end Go.Pw
