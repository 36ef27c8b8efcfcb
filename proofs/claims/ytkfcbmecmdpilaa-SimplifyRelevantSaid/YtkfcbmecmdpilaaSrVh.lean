/-
  The reference's relevant atoms and fluents are the least closed marks, in plain Lean: expressions, conditions, operators.
-/
import Derived.Test.YtkfcbmecmdpilaaSrVg
set_option maxHeartbeats 8000000
set_option linter.unusedSimpArgs false
set_option linter.unusedVariables false
namespace Go.Pw
theorem WFE.kids {e : GExpr} (h : WFE e) : e.Kids.length ≤ 9223372036854775807 ∧ ∀ k ∈ e.Kids, WFE k := by
  cases h with
  | mk a b => exact ⟨a, b⟩
theorem rmark {β : Type} {A : List Bool} {i : Int} {Q : β → Prop} {f : Bool → List Bool → Option β} (h0 : 0 ≤ i) (h1 : i < (A.length : Int)) (h : ∀ x A', MarkS A A' (fun j => j = i) → Ok (f x A') Q) :
    Ok ((idx A i).bind fun x => (setI A i true).bind fun l => f x l) Q := by
  obtain ⟨x, hx⟩ := get_len (xs := A) (i := i.toNat) (by omega)
  rw [idx_int h0, hx, setI_int h0 h1]
  exact h x _ (MarkS.set h0 h1)
theorem rexpr_ok : ∀ (fu : Nat) {A F : List Bool} (e : GExpr), SizeOf.sizeOf e < fu → WFE e → (∀ i, FL e i → 0 ≤ i ∧ i < (F.length : Int)) → Ok (ref19_Marks_expr_o_p fu ⟨A, F⟩ e) fun r => MarkS F r (FL e)
  | 0, A, F, e, h, _, _ => absurd h (Nat.not_lt_zero _)
  | fu + 1, A, F, e, h, hw, hr => by
    rw [ref19_Marks_expr_o_p]
    have hwk := hw.kids
    have first : Ok (if decide (e.Op = (⟨#[102, 108, 117, 101, 110, 116]⟩ : ByteArray)) then ((idx F e.N).bind fun x100 => (setI F e.N true).bind fun l100 => some l100) else (some F)) fun r => MarkS F r (fun i => e.Op = sFlu ∧ i = e.N) := by
      by_cases he : e.Op = sFlu
      · rw [if_pos (decide_eq_true he)]
        have hn := hr e.N (.here he)
        refine rmark hn.1 hn.2 fun x A' m => Ok.ret (m.congr fun i _ _ => ⟨fun q => ⟨he, q⟩, fun q => q.2⟩)
      · rw [if_neg (by simpa using he)]
        exact Ok.ret (MarkS.refl F fun i q => he q.1)
    refine Ok.bind (first.mono ?_)
    intro F1 m1
    refine Ok.whileN (n := e.Kids.length) (fun j (q : List Bool) => MarkS F1 q (fun i => ∃ k ∈ e.Kids.take j, FL k i)) (fun _ => False) (MarkS.refl F1 (by simp)) ?_ ?_ (fun _ h => h.elim) ?_
    · intro j F2 hj n1
      obtain ⟨k, hk⟩ := get_len hj
      have hkm := List.mem_of_getElem? hk
      have hsz := kid_size hkm
      have hlt : decide ((j : Int) < (e.Kids.length : Int)) = true := decide_eq_true (by omega)
      simp only [un2, hlt, if_true, idx_nat, hk, Option.bind_some]
      refine Ok.bind ((rexpr_ok fu k (by omega) (hwk.2 k hkm) fun i hi => by
        have := hr i (.kid hkm hi)
        rw [n1.len, m1.len]; exact this).mono ?_)
      intro F3 o1
      refine Ok.ret ⟨wrap_succ hj hwk.1, (n1.trans o1).congr fun i _ _ => ?_⟩
      rw [take_snoc hk]
      constructor
      · rintro (⟨x, hx, hf⟩ | hf)
        · exact ⟨x, by simp [hx], hf⟩
        · exact ⟨k, by simp, hf⟩
      · rintro ⟨x, hx, hf⟩
        rcases List.mem_append.1 hx with hx | hx
        · exact .inl ⟨x, hx, hf⟩
        · simp only [List.mem_singleton] at hx; subst hx; exact .inr hf
    · intro F2 _
      simp only [un2]
      rw [if_neg (by simp)]
    · intro F2 n1
      rw [List.take_length] at n1
      refine Ok.ret ((m1.trans n1).congr fun i _ _ => ?_)
      constructor
      · rintro (⟨a, rfl⟩ | ⟨k, hk, hf⟩)
        · exact .here a
        · exact .kid hk hf
      · intro hf
        cases hf with
        | here a => exact .inl ⟨a, rfl⟩
        | kid a b => exact .inr ⟨_, a, b⟩
section
variable {fu : Nat} {A F : List Bool}
theorem rmarks_loop {R β : Type} {l : List Int} {Q : β → Prop} {kr : R → Option β} {k : Int × List Bool → Option β} (hl : ∀ x ∈ l, 0 ≤ x ∧ x < (A.length : Int)) (hn : l.length ≤ 9223372036854775807)
    (hk : ∀ A', MarkS A A' (fun i => i ∈ l) → Ok (k ((l.length : Int), A')) Q) :
    Ok (ctl (whileC (R := R) (un2 fun (i100 : Int) (l100 : (List Bool)) => if decide (i100 < (l.length : Int)) then ((idx l i100).bind fun x100 =>
  (idx l100 x100).bind fun x101 =>
  (setI l100 x100 true).bind fun l101 =>
  some (Ctl.next (IntKind.i64.wrap (i100 + 1), l101)))
  else (some (Ctl.brk (i100, l100)))) (0, A)) kr k) Q := by
  refine Ok.whileN (n := l.length) (fun j (q : List Bool) => MarkS A q (fun i => i ∈ l.take j)) (fun _ => False) (MarkS.refl A (by simp)) ?_ ?_ (fun _ h => h.elim) ?_
  · intro j A1 hj h1
    obtain ⟨x, hx⟩ := get_len hj
    have hr := hl x (List.mem_of_getElem? hx)
    have hlt : decide ((j : Int) < (l.length : Int)) = true := decide_eq_true (by omega)
    simp only [un2, hlt, if_true, idx_nat, hx, Option.bind_some]
    refine rmark hr.1 (by rw [h1.len]; exact hr.2) fun b A2 m1 => Ok.ret ⟨wrap_succ hj hn, (h1.trans m1).congr fun i _ _ => ?_⟩
    rw [take_snoc hx]; simp
  · intro F2 _
    simp only [un2]
    rw [if_neg (by simp)]
  · intro A1 h1
    rw [List.take_length] at h1
    exact hk A1 h1
theorem rcond_ok {c : Cond} (hc : CondOK (A.length : Int) (F.length : Int) c) (hl : LenC c) (hs : SizeOf.sizeOf c ≤ fu) :
    Ok (ref19_Marks_cond_o_p fu ⟨A, F⟩ c) fun r => MarkS A r.1 (CAt c) ∧ MarkS F r.2 (CFl c) := by
  unfold ref19_Marks_cond_o_p
  refine rmarks_loop (fun x hx => hc.p.rng hx) hl.p ?_
  intro A1 a1
  simp only [un2]
  refine rmarks_loop (A := A1) (fun x hx => by rw [a1.len]; exact hc.n.rng hx) hl.n ?_
  intro A2 b1
  simp only [un2]
  have hA : MarkS A A2 (CAt c) := (a1.trans b1).congr fun i _ _ => Iff.rfl
  refine Ok.whileN (n := c.Tests.length) (fun j (q : List Bool) => MarkS F q (fun i => ∃ t ∈ c.Tests.take j, FL t.A i ∨ FL t.B i)) (fun _ => False) (MarkS.refl F (by simp)) ?_ ?_ (fun _ h => h.elim) ?_
  · intro j F3 hj h1
    obtain ⟨t, ht⟩ := get_len hj
    have hm := List.mem_of_getElem? ht
    have hz := test_size hm
    have hT := hc.t t hm
    have hlt : decide ((j : Int) < (c.Tests.length : Int)) = true := decide_eq_true (by omega)
    simp only [un2, hlt, if_true, idx_nat, ht, Option.bind_some]
    refine Ok.bind ((rexpr_ok fu t.A (by omega) (hl.e t hm).1 fun i hi => by rw [h1.len]; exact hT.2.1.fl hi).mono ?_)
    intro F4 m1
    refine Ok.bind ((rexpr_ok fu t.B (by omega) (hl.e t hm).2 fun i hi => by rw [m1.len, h1.len]; exact hT.2.2.fl hi).mono ?_)
    intro F5 o1
    refine Ok.ret ⟨wrap_succ hj hl.t, ((h1.trans m1).trans o1).congr fun i _ _ => ?_⟩
    rw [take_snoc ht]
    constructor
    · rintro ((⟨t', ht', q⟩ | q) | q)
      · exact ⟨t', by simp [ht'], q⟩
      · exact ⟨t, by simp, .inl q⟩
      · exact ⟨t, by simp, .inr q⟩
    · rintro ⟨t', ht', q⟩
      rcases List.mem_append.1 ht' with ht' | ht'
      · exact .inl (.inl ⟨t', ht', q⟩)
      · simp only [List.mem_singleton] at ht'; subst ht'
        rcases q with q | q
        · exact .inl (.inr q)
        · exact .inr q
  · intro F2 _
    simp only [un2]
    rw [if_neg (by simp)]
  · intro F3 h1
    rw [List.take_length] at h1
    exact Ok.ret ⟨hA, h1⟩
theorem rtouch_ok {o : GOp} (ho : GOpOK (A.length : Int) (F.length : Int) o) (hl : LenO o) : Ok (ref19_Marks_Touches_o_p ⟨A, F⟩ o) fun b => b = true ↔ Touch (Mk A) (Mk F) o := by
  unfold ref19_Marks_Touches_o_p
  rw [ctl_whileP (xs := o.Changes) (r := true) (fun c => ¬ Mk A c.Atom)]
  rotate_left
  · intro i c hc
    have hi := (List.getElem?_eq_some_iff.1 hc).1
    have hr := ho.chg c (List.mem_of_getElem? hc)
    have := hr.r0
    have := hr.r1
    obtain ⟨b, hb⟩ := get_len (xs := A) (i := c.Atom.toNat) (by omega)
    rw [if_pos (decide_eq_true (by omega))]
    simp only [idx_nat, hc, Option.bind_some, idx_int hr.r0, hb, wrap_succ hi hl.ch]
    have : Mk A c.Atom ↔ b = true := by unfold Mk; rw [hb]; simp [hr.r0]
    cases b <;> simp [this]
  · rw [if_neg (by simp)]
  by_cases h1 : ∀ c ∈ o.Changes, ¬ Mk A c.Atom
  rotate_left
  · rw [if_neg h1]
    refine Ok.ret ⟨fun _ => .inl ?_, fun _ => rfl⟩
    apply Classical.byContradiction
    intro hno
    exact h1 fun c hc hm => hno ⟨c, hc, hm⟩
  rw [if_pos h1]
  rw [ctl_whileP (xs := o.Assigns) (r := true) (fun a => ¬ Mk F a.Fluent)]
  rotate_left
  · intro i a ha
    have hi := (List.getElem?_eq_some_iff.1 ha).1
    have hr := ass_rng ho.as (List.mem_of_getElem? ha)
    obtain ⟨b, hb⟩ := get_len (xs := F) (i := a.Fluent.toNat) (by omega)
    rw [if_pos (decide_eq_true (by omega))]
    simp only [idx_nat, ha, Option.bind_some, idx_int hr.1, hb, wrap_succ hi hl.as]
    have : Mk F a.Fluent ↔ b = true := by unfold Mk; rw [hb]; simp [hr.1]
    cases b <;> simp [this]
  · rw [if_neg (by simp)]
  by_cases h2 : ∀ a ∈ o.Assigns, ¬ Mk F a.Fluent
  · rw [if_pos h2]
    refine Ok.ret ⟨fun h => absurd h (by simp), ?_⟩
    rintro (⟨c, hc, q⟩ | ⟨a, ha, q⟩)
    · exact absurd q (h1 c hc)
    · exact absurd q (h2 a ha)
  · rw [if_neg h2]
    refine Ok.ret ⟨fun _ => .inr ?_, fun _ => rfl⟩
    apply Classical.byContradiction
    intro hno
    exact h2 fun c hc hm => hno ⟨c, hc, hm⟩
theorem rop_ok {o : GOp} (ho : GOpOK (A.length : Int) (F.length : Int) o) (hl : LenO o) (hs : SizeOf.sizeOf o ≤ fu) :
    Ok (ref19_Marks_operator_o_p fu ⟨A, F⟩ o) fun r => OpStep A F o r.1 r.2 := by
  have hpre := pre_size o
  unfold ref19_Marks_operator_o_p
  refine Ok.bind ((rcond_ok ho.pre hl.pre (by omega)).mono ?_)
  rintro ⟨A1, F1⟩ ⟨p1, p2⟩
  simp only at p1 p2
  have g1 : Grow A F A1 F1 := (p1.ga (F := F)).trans p2.gf
  have hla : A1.length = A.length := g1.la
  have hlf : F1.length = F.length := g1.lf
  simp only [un2]
  refine Ok.whileN (n := o.Changes.length) (fun j (q : List Bool × List Bool) => Grow A1 F1 q.1 q.2 ∧
    (∀ RA RF : Int → Prop, OpRule o RA RF → Touch RA RF o → (∀ i, Mk A1 i → RA i) → (∀ i, Mk F1 i → RF i) → (∀ i, Mk q.1 i → RA i) ∧ ∀ i, Mk q.2 i → RF i) ∧
    ∀ (k : Nat) c, k < j → o.Changes[k]? = some c → Mk A1 c.Atom → (∀ i, CAt c.When i → Mk q.1 i) ∧ ∀ i, CFl c.When i → Mk q.2 i) (fun _ => False)
    ⟨Grow.refl _ _, fun _ _ _ _ h k => ⟨h, k⟩, fun k c hk => absurd hk (Nat.not_lt_zero k)⟩ ?_ ?_ (fun _ h => h.elim) ?_
  · rintro j ⟨A2, F2⟩ hj ⟨h1, h3, h4⟩
    simp only at h1 h3 h4
    obtain ⟨c, hc⟩ := get_len hj
    have hm := List.mem_of_getElem? hc
    have hcg := ho.chg c hm
    have hw := when_size hm
    have r0 := hcg.r0
    have r1 := hcg.r1
    have la2 : A2.length = A.length := by rw [h1.la, hla]
    have lf2 : F2.length = F.length := by rw [h1.lf, hlf]
    obtain ⟨b, hb⟩ := get_len (xs := A2) (i := c.Atom.toNat) (by omega)
    have hmk : Mk A2 c.Atom ↔ b = true := by unfold Mk; rw [hb]; simp [r0]
    have hlt : decide ((j : Int) < (o.Changes.length : Int)) = true := decide_eq_true (by omega)
    simp only [un3, hlt, if_true, idx_nat, hc, Option.bind_some, idx_int r0, hb]
    cases b with
    | true =>
      simp only [if_true]
      refine Ok.bind (Ok.bind ((rcond_ok (A := A2) (F := F2) (fu := fu) (c := c.When) (by rw [la2, lf2]; exact hcg.w) (hl.whn c hm) (by omega)).mono ?_))
      rintro ⟨A3, F3⟩ ⟨m1, m2⟩
      simp only at m1 m2
      have gm : Grow A2 F2 A3 F3 := (m1.ga (F := F2)).trans m2.gf
      refine Ok.ret (Ok.ret ⟨wrap_succ hj hl.ch, h1.trans gm, fun RA RF hR hT hA hF => ?_, fun k c' hk hc' hmk' => ?_⟩)
      · obtain ⟨s1, s2⟩ := h3 RA RF hR hT hA hF
        have hr := (hR hT).2.2.1 c hm (s1 _ (hmk.2 rfl))
        exact ⟨fun i q => ((m1.mkI i).1 q).elim (s1 i) fun q => hr.1 i q.2.2, fun i q => ((m2.mkI i).1 q).elim (s2 i) fun q => hr.2 i q.2.2⟩
      · by_cases e : k = j
        · subst e
          rw [hc] at hc'; cases hc'
          refine ⟨fun i hi => ?_, fun i hi => ?_⟩
          · have hr := hcg.w.at hi
            exact (m1.mkI i).2 (.inr ⟨hr.1, by rw [la2]; exact hr.2, hi⟩)
          · have hr := hcg.w.fl hi
            exact (m2.mkI i).2 (.inr ⟨hr.1, by rw [lf2]; exact hr.2, hi⟩)
        · obtain ⟨d1, d2⟩ := h4 k c' (by omega) hc' hmk'
          exact ⟨fun i hi => gm.ua i (d1 i hi), fun i hi => gm.uf i (d2 i hi)⟩
    | false =>
      simp only [Bool.false_eq_true, if_false, Option.bind_some]
      refine Ok.ret ⟨wrap_succ hj hl.ch, h1, h3, fun k c' hk hc' hmk' => ?_⟩
      by_cases e : k = j
      · subst e
        rw [hc] at hc'; cases hc'
        have := hmk.1 (h1.ua _ hmk')
        cases this
      · exact h4 k c' (by omega) hc' hmk'
  · rintro ⟨A2, F2⟩ _
    simp only [un3]
    rw [if_neg (by simp)]
  · rintro ⟨A2, F2⟩ ⟨h1, h3, h4⟩
    simp only at h1 h3 h4
    have la2 : A2.length = A.length := by rw [h1.la, hla]
    have lf2 : F2.length = F.length := by rw [h1.lf, hlf]
    simp only [un3]
    refine Ok.whileN (n := o.Assigns.length) (fun j (q : List Bool) => MarkS F2 q (fun i => ∃ a ∈ o.Assigns.take j, i = a.Fluent ∨ FL a.Value i)) (fun _ => False) (MarkS.refl F2 (by simp)) ?_ ?_ (fun _ h => h.elim) ?_
    · intro j F3 hj k1
      obtain ⟨a, ha⟩ := get_len hj
      have hm := List.mem_of_getElem? ha
      have hr := ass_rng ho.as hm
      have hz := value_size hm
      have lf3 : F3.length = F.length := by rw [k1.len, lf2]
      have hlt : decide ((j : Int) < (o.Assigns.length : Int)) = true := decide_eq_true (by omega)
      simp only [un2, hlt, if_true, idx_nat, ha, Option.bind_some]
      refine rmark hr.1 (by rw [lf3]; exact hr.2.1) fun b F4 m1 => ?_
      refine Ok.bind ((rexpr_ok fu a.Value (by omega) (hl.val a hm) fun i hi => by rw [m1.len, lf3]; exact hr.2.2.fl hi).mono ?_)
      intro F5 o1
      refine Ok.ret ⟨wrap_succ hj hl.as, ((k1.trans m1).trans o1).congr fun i _ _ => ?_⟩
      rw [take_snoc ha]
      constructor
      · rintro ((⟨a', ha', q⟩ | q) | q)
        · exact ⟨a', by simp [ha'], q⟩
        · exact ⟨a, by simp, .inl q⟩
        · exact ⟨a, by simp, .inr q⟩
      · rintro ⟨a', ha', q⟩
        rcases List.mem_append.1 ha' with ha' | ha'
        · exact .inl (.inl ⟨a', ha', q⟩)
        · simp only [List.mem_singleton] at ha'; subst ha'
          rcases q with q | q
          · exact .inl (.inr q)
          · exact .inr q
    · intro F3 _
      simp only [un2]
      rw [if_neg (by simp)]
    · intro F3 k1
      rw [List.take_length] at k1
      refine Ok.ret (opStep_of ho p1 p2 h1 h3 (fun c hc hmk => ?_) k1)
      obtain ⟨i, hi, rfl⟩ := List.getElem_of_mem hc
      exact h4 i _ hi (List.getElem?_eq_getElem hi) hmk
end
end Go.Pw
