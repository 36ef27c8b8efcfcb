/-
  The program's relevant atoms and fluents are the least closed marks, in plain Lean.
-/
import Derived.Test.YtkfcbmecmdpilaaSrVf
set_option maxHeartbeats 8000000
set_option linter.unusedSimpArgs false
set_option linter.unusedVariables false
namespace Go.Pw
theorem mk_rep {n : Nat} (i : Int) : ¬ Mk (List.replicate n false) i := by
  rintro ⟨_, h⟩
  rw [List.getElem?_replicate] at h
  split at h <;> simp at h
theorem cnt_le (A : List Bool) : cnt A ≤ A.length := List.count_le_length
/-- What holds of marks on the way. -/
structure Way (g : Ground) (A F : List Bool) : Prop where
  la : A.length = g.Atoms.length
  lf : F.length = g.Fluents.length
  s : ∀ RA RF : Int → Prop, Closed g RA RF → (∀ i, Mk A i → RA i) ∧ ∀ i, Mk F i → RF i
def GoalIn (g : Ground) (A F : List Bool) : Prop := ∀ c ∈ g.Goal, (∀ i, CAt c i → Mk A i) ∧ ∀ i, CFl c i → Mk F i
theorem GoalIn.grow {g : Ground} {A F A' F' : List Bool} (h : GoalIn g A F) (k : Grow A F A' F') : GoalIn g A' F' := fun c hc => ⟨fun i q => k.ua i ((h c hc).1 i q), fun i q => k.uf i ((h c hc).2 i q)⟩
theorem Way.cond {g : Ground} {A F A' F' : List Bool} {c : Cond} (h : Way g A F) (hc : c ∈ g.Goal) (a : MarkS A A' (CAt c)) (f : MarkS F F' (CFl c)) : Way g A' F' :=
  ⟨by rw [a.len, h.la], by rw [f.len, h.lf], fun RA RF hC => by
    obtain ⟨h1, h2⟩ := h.s RA RF hC
    have h3 := hC.1 c hc
    exact ⟨fun i q => ((a.mkI i).1 q).elim (h1 i) fun q => h3.1 i q.2.2, fun i q => ((f.mkI i).1 q).elim (h2 i) fun q => h3.2 i q.2.2⟩⟩
theorem Way.op {g : Ground} {A F A' F' : List Bool} {o : GOp} (h : Way g A F) (ho : o ∈ g.Ops) (k : OpStep A F o A' F') (hT : Touch (Mk A) (Mk F) o) : Way g A' F' :=
  ⟨by rw [k.g.la, h.la], by rw [k.g.lf, h.lf], fun RA RF hC => by
    obtain ⟨h1, h2⟩ := h.s RA RF hC
    refine k.s RA RF (hC.2 o ho) (hT.imp ?_ ?_) h1 h2
    · rintro ⟨c, hc, hm⟩; exact ⟨c, hc, h1 _ hm⟩
    · rintro ⟨a, ha, hm⟩; exact ⟨a, ha, h2 _ hm⟩⟩
section
variable {fu : Nat} {g : Ground}
theorem Way.start : Way g (List.replicate g.Atoms.length false) (List.replicate g.Fluents.length false) :=
  ⟨by simp, by simp, fun _ _ _ => ⟨fun i q => absurd q (mk_rep i), fun i q => absurd q (mk_rep i)⟩⟩
theorem mrelevant_ok (hv : ValidG g) (hs : SizeOf.sizeOf g ≤ fu) : Ok (simplify_relevant_p fu g) fun s => Least g s.atoms s.fluents := by
  have ha := hv.a
  have hf := hv.f
  unfold simplify_relevant_p
  rw [mk_ok (n := g.Atoms.length) (by omega) (by omega), mk_ok (n := g.Fluents.length) (by omega) (by omega)]
  simp only [Option.bind_some]
  refine Ok.bind (Ok.forS (fun j (q : Bool × List Bool × List Bool) => Way g q.2.1 q.2.2 ∧ ∀ (k : Nat) c, k < j → g.Goal[k]? = some c → (∀ i, CAt c i → Mk q.2.1 i) ∧ ∀ i, CFl c i → Mk q.2.2 i)
    ⟨Way.start, fun k c hk => absurd hk (Nat.not_lt_zero k)⟩ ?_ ?_)
  · rintro j ⟨z, A, F⟩ hj ⟨h1, h2⟩
    simp only at h1 h2
    obtain ⟨c, hc⟩ := get_len hj
    have hm := List.mem_of_getElem? hc
    have hz := goal_size hm
    have hC := hv.goal c hm
    simp only [un3, idx_nat, hc, Option.bind_some]
    refine Ok.bind ((mcond_ok (A := A) (F := F) (z := z) (fu := fu) (c := c) (by rw [h1.la, h1.lf]; exact hC) (by omega)).mono ?_)
    rintro ⟨z1, A1, F1⟩ ⟨m1, m2, _⟩
    simp only at m1 m2
    have gm : Grow A F A1 F1 := (m1.ga (F := F)).trans m2.gf
    refine Ok.ret ⟨h1.cond hm m1 m2, fun k c' hk hc' => ?_⟩
    by_cases e : k = j
    · subst e
      rw [hc] at hc'; cases hc'
      refine ⟨fun i hi => ?_, fun i hi => ?_⟩
      · have hr := hC.at hi
        exact (m1.mkI i).2 (.inr ⟨hr.1, by rw [h1.la]; exact hr.2, hi⟩)
      · have hr := hC.fl hi
        exact (m2.mkI i).2 (.inr ⟨hr.1, by rw [h1.lf]; exact hr.2, hi⟩)
    · obtain ⟨d1, d2⟩ := h2 k c' (by omega) hc'
      exact ⟨fun i hi => gm.ua i (d1 i hi), fun i hi => gm.uf i (d2 i hi)⟩
  rintro ⟨z0, A0, F0⟩ ⟨h1, h2⟩
  simp only at h1 h2
  have hg0 : GoalIn g A0 F0 := fun c hc => by
    obtain ⟨i, hi, rfl⟩ := List.getElem_of_mem hc
    exact h2 i _ hi (List.getElem?_eq_getElem hi)
  simp only [un3]
  refine Ok.while (fun q : Bool × List Bool × List Bool => Way g q.2.1 q.2.2 ∧ GoalIn g q.2.1 q.2.2 ∧ (q.1 = false → ∀ o ∈ g.Ops, OpRule o (Mk q.2.1) (Mk q.2.2)))
    (fun q => Way g q.2.1 q.2.2 ∧ GoalIn g q.2.1 q.2.2 ∧ ∀ o ∈ g.Ops, OpRule o (Mk q.2.1) (Mk q.2.2)) (fun _ => False)
    (fun q => 2 * (g.Atoms.length + g.Fluents.length - (cnt q.2.1 + cnt q.2.2)) + q.1.toNat) ⟨h1, hg0, fun h => by cases h⟩ ?_ (fun _ h => h.elim) ?_
  · rintro ⟨z, A, F⟩ ⟨w, gi, hz⟩
    simp only at w gi hz
    cases z with
    | false =>
      refine ⟨.brk (false, A, F), by simp only [un3, Bool.false_eq_true, if_false], fun s' e => (by cases e), fun s' e => ?_, fun r e => (by cases e)⟩
      cases e; exact ⟨w, gi, hz rfl⟩
    | true =>
      have loop : Ok (forS (fun i101 => un3 fun (z103 : Bool) (l108 : (List Bool)) (l109 : (List Bool)) => (idx g.Ops (i101 : Int)).bind fun x101 =>
          (simplify_sets_touches_p (⟨l108, l109, z103⟩ : simplify_sets) x101).bind <| fun (y100 : Bool) =>
          (if y100 then ((simplify_sets_operator_p fu (⟨l108, l109, z103⟩ : simplify_sets) x101).bind <| un3 fun (z104 : Bool) (l110 : (List Bool)) (l111 : (List Bool)) =>
          some (z104, l110, l111))
          else (some (z103, l108, l109))).bind (un3 fun (z105 : Bool) (l112 : (List Bool)) (l113 : (List Bool)) => some (z105, l112, l113))) (g.Ops.length) 0 (false, A, F))
          fun q => Way g q.2.1 q.2.2 ∧ Grow A F q.2.1 q.2.2 ∧ FlagP false A F q.1 q.2.1 q.2.2 ∧ (q.2.1 = A → q.2.2 = F → ∀ o ∈ g.Ops, OpRule o (Mk A) (Mk F)) := by
        refine Ok.forS (fun j (q : Bool × List Bool × List Bool) => Way g q.2.1 q.2.2 ∧ Grow A F q.2.1 q.2.2 ∧ FlagP false A F q.1 q.2.1 q.2.2 ∧ (q.2.1 = A → q.2.2 = F → ∀ (k : Nat) o, k < j → g.Ops[k]? = some o → OpRule o (Mk A) (Mk F)))
          ⟨w, Grow.refl _ _, FlagP.refl _ _ _, fun _ _ k o hk => absurd hk (Nat.not_lt_zero k)⟩ ?_ ?_
        · rintro j ⟨z1, A1, F1⟩ hj ⟨k1, k2, k3, k4⟩
          simp only at k1 k2 k3 k4
          obtain ⟨o, ho⟩ := get_len hj
          have hm := List.mem_of_getElem? ho
          have hsz := op_size hm
          have hO : GOpOK (A1.length : Int) (F1.length : Int) o := by rw [k1.la, k1.lf]; exact hv.op o hm
          simp only [un3, idx_nat, ho, Option.bind_some]
          rw [mtouch_ok hO]
          simp only [Option.bind_some]
          by_cases hT : Touch (Mk A1) (Mk F1) o
          · simp only [hT, decide_true, if_true]
            refine Ok.bind (Ok.bind ((mop_ok (fu := fu) (z := z1) hO (by omega)).mono ?_))
            rintro ⟨z2, A2, F2⟩ ⟨m1, m2⟩
            simp only at m1 m2
            refine Ok.ret (Ok.ret ⟨k1.op hm m1 hT, k2.trans m1.g, k3.trans m2 k2 m1.g, fun e1 e2 k o' hk ho' => ?_⟩)
            simp only at e1 e2
            subst e1 e2
            obtain ⟨ea, ef⟩ := k2.anti m1.g
            by_cases e : k = j
            · subst e
              rw [ho] at ho'; cases ho'
              have := m1.q ea.symm ef.symm
              rw [ea, ef] at this
              exact this
            · exact k4 ea ef k o' (by omega) ho'
          · simp only [hT, decide_false, Bool.false_eq_true, if_false, Option.bind_some]
            refine Ok.ret ⟨k1, k2, k3, fun e1 e2 k o' hk ho' => ?_⟩
            simp only at e1 e2
            by_cases e : k = j
            · subst e
              rw [ho] at ho'; cases ho'
              intro hT'
              rw [e1, e2] at hT
              exact absurd hT' hT
            · exact k4 e1 e2 k o' (by omega) ho'
        · rintro ⟨z1, A1, F1⟩ ⟨k1, k2, k3, k4⟩
          refine ⟨k1, k2, k3, fun e1 e2 o ho => ?_⟩
          obtain ⟨i, hi, rfl⟩ := List.getElem_of_mem ho
          exact k4 e1 e2 i _ hi (List.getElem?_eq_getElem hi)
      obtain ⟨⟨z1, A1, F1⟩, hl, k1, k2, k3, k4⟩ := loop
      simp only at k1 k2 k3 k4
      refine ⟨.next (z1, A1, F1), ?_, fun s' e => ?_, fun s' e => (by cases e), fun r e => (by cases e)⟩
      · simp only [un3, if_true]
        rw [hl]
        rfl
      · cases e
        refine ⟨⟨k1, gi.grow k2, fun e => ?_⟩, ?_⟩
        · simp only at e
          obtain ⟨_, e1, e2⟩ := k3.q e
          have := k4 e1 e2
          rw [← e1, ← e2] at this
          exact this
        · have c1 := cnt_le A1
          have c2 := cnt_le F1
          have l1 := k1.la
          have l2 := k1.lf
          show 2 * (g.Atoms.length + g.Fluents.length - (cnt A1 + cnt F1)) + z1.toNat < 2 * (g.Atoms.length + g.Fluents.length - (cnt A + cnt F)) + true.toNat
          cases z1 with
          | false =>
            obtain ⟨_, e1, e2⟩ := k3.q rfl
            rw [e1, e2]
            simp
          | true =>
            have := (k3.t rfl).resolve_left (by simp)
            simp only [Bool.toNat_true]
            omega
  · rintro ⟨z, A, F⟩ ⟨w, gi, hR⟩
    exact Ok.ret ⟨w.la, w.lf, ⟨gi, hR⟩, w.s⟩
end
end Go.Pw
