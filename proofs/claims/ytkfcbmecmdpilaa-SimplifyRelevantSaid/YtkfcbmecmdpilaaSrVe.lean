/-
  Marks on atoms and fluents, in plain Lean: the program's marking by operators.
-/
import Derived.Test.YtkfcbmecmdpilaaSrVd
set_option maxHeartbeats 8000000
set_option linter.unusedSimpArgs false
set_option linter.unusedVariables false
namespace Go.Pw
/-- What a row marks. -/
def Mk (A : List Bool) (i : Int) : Prop := 0 ≤ i ∧ A[i.toNat]? = some true
theorem MarkS.mkI {A A' : List Bool} {S : Int → Prop} (h : MarkS A A' S) (i : Int) : Mk A' i ↔ Mk A i ∨ (0 ≤ i ∧ i < (A.length : Int) ∧ S i) := by
  unfold Mk
  rw [h.iff]
  constructor
  · rintro ⟨h0, a | ⟨a, b⟩⟩
    · exact .inl ⟨h0, a⟩
    · rw [Int.toNat_of_nonneg h0] at b
      exact .inr ⟨h0, by omega, b⟩
  · rintro (⟨h0, a⟩ | ⟨h0, h1, b⟩)
    · exact ⟨h0, .inl a⟩
    · exact ⟨h0, .inr ⟨by omega, by rw [Int.toNat_of_nonneg h0]; exact b⟩⟩
structure Grow (A F A' F' : List Bool) : Prop where
  la : A'.length = A.length
  lf : F'.length = F.length
  ua : ∀ i, Mk A i → Mk A' i
  uf : ∀ i, Mk F i → Mk F' i
theorem Grow.refl (A F : List Bool) : Grow A F A F := ⟨rfl, rfl, fun _ h => h, fun _ h => h⟩
theorem Grow.trans {A F B G C K : List Bool} (h : Grow A F B G) (k : Grow B G C K) : Grow A F C K := ⟨by rw [k.la, h.la], by rw [k.lf, h.lf], fun i q => k.ua i (h.ua i q), fun i q => k.uf i (h.uf i q)⟩
theorem mk_nat' {A : List Bool} {i : Nat} : Mk A (i : Int) ↔ A[i]? = some true := by unfold Mk; simp
theorem Grow.cnt {A F A' F' : List Bool} (h : Grow A F A' F') : (cnt A ≤ cnt A' ∧ (cnt A = cnt A' → A' = A)) ∧ cnt F ≤ cnt F' ∧ (cnt F = cnt F' → F' = F) :=
  ⟨cnt_mono h.la fun i q => mk_nat'.1 (h.ua _ (mk_nat'.2 q)), cnt_mono h.lf fun i q => mk_nat'.1 (h.uf _ (mk_nat'.2 q))⟩
theorem Grow.anti {A F B G : List Bool} (h : Grow A F B G) (k : Grow B G A F) : B = A ∧ G = F := by
  have h1 := h.cnt
  have h2 := k.cnt
  exact ⟨h1.1.2 (by omega), h1.2.2 (by omega)⟩
/-- What the program's flag says of both rows. -/
structure FlagP (z : Bool) (A F : List Bool) (z' : Bool) (A' F' : List Bool) : Prop where
  q : z' = false → z = false ∧ A' = A ∧ F' = F
  t : z' = true → z = true ∨ cnt A + cnt F < cnt A' + cnt F'
theorem FlagP.refl (z : Bool) (A F : List Bool) : FlagP z A F z A F := ⟨fun h => ⟨h, rfl, rfl⟩, fun h => .inl h⟩
theorem FlagP.trans {z z' z'' : Bool} {A F B G C K : List Bool} (h : FlagP z A F z' B G) (k : FlagP z' B G z'' C K) (m : Grow A F B G) (n : Grow B G C K) : FlagP z A F z'' C K := by
  have h1 := m.cnt
  have h2 := n.cnt
  refine ⟨fun e => ?_, fun e => ?_⟩
  · obtain ⟨a, b, c⟩ := k.q e
    obtain ⟨d, e, f⟩ := h.q a
    exact ⟨d, b.trans e, c.trans f⟩
  · rcases k.t e with a | a
    · rcases h.t a with b | b
      · exact .inl b
      · exact .inr (by omega)
    · exact .inr (by omega)
theorem Flag.a {z z' : Bool} {A A' F : List Bool} (h : Flag z A z' A') : FlagP z A F z' A' F := ⟨fun e => ⟨(h.q e).1, (h.q e).2, rfl⟩, fun e => (h.t e).imp id fun q => by omega⟩
theorem Flag.f {z z' : Bool} {A F F' : List Bool} (h : Flag z F z' F') : FlagP z A F z' A F' := ⟨fun e => ⟨(h.q e).1, rfl, (h.q e).2⟩, fun e => (h.t e).imp id fun q => by omega⟩
theorem MarkS.ga {A A' F : List Bool} {S : Int → Prop} (h : MarkS A A' S) : Grow A F A' F := ⟨h.len, rfl, fun i q => (h.mkI i).2 (.inl q), fun _ q => q⟩
theorem MarkS.gf {A F F' : List Bool} {S : Int → Prop} (h : MarkS F F' S) : Grow A F A F' := ⟨rfl, h.len, fun _ q => q, fun i q => (h.mkI i).2 (.inl q)⟩
theorem Asc.rng {l : List Int} {n : Int} (h : Asc l n) {x : Int} (hx : x ∈ l) : 0 ≤ x ∧ x < n := by
  obtain ⟨i, hi, rfl⟩ := List.getElem_of_mem hx
  have := h i _ (List.getElem?_eq_getElem hi)
  exact ⟨this.1, this.2.1⟩
theorem CondOK.at {na nf : Int} {c : Cond} (h : CondOK na nf c) {i : Int} (q : CAt c i) : 0 ≤ i ∧ i < na := q.elim (fun q => h.p.rng q) (fun q => h.n.rng q)
theorem CondOK.fl {na nf : Int} {c : Cond} (h : CondOK na nf c) {i : Int} (q : CFl c i) : 0 ≤ i ∧ i < nf := by
  obtain ⟨t, ht, q | q⟩ := q
  · exact (h.t t ht).2.1.fl q
  · exact (h.t t ht).2.2.fl q
section
variable {fu : Nat} {A F : List Bool} {z : Bool}
theorem marks_loop {l : List Int} (hl : ∀ x ∈ l, 0 ≤ x ∧ x < (A.length : Int)) (F : List Bool) :
    Ok (forS (fun i100 => un2 fun (z100 : Bool) (l100 : (List Bool)) => (idx l (i100 : Int)).bind fun x100 =>
      (simplify_sets_mark_p (⟨l100, F, z100⟩ : simplify_sets) x100).bind <| un2 fun (z101 : Bool) (l101 : (List Bool)) => some (z101, l101)) l.length 0 (z, A)) fun r => MarkS A r.2 (fun i => i ∈ l) ∧ Flag z A r.1 r.2 := by
  refine Ok.forS (fun j (q : Bool × List Bool) => MarkS A q.2 (fun i => i ∈ l.take j) ∧ Flag z A q.1 q.2) ⟨MarkS.refl A (by simp), Flag.refl z A⟩ ?_ ?_
  · rintro j ⟨z1, A1⟩ hj ⟨h1, h2⟩
    simp only at h1 h2
    obtain ⟨x, hx⟩ := get_len hj
    have hr := hl x (List.mem_of_getElem? hx)
    simp only [un2, idx_nat, hx, Option.bind_some]
    refine Ok.bind ((mark_a hr.1 (by rw [h1.len]; exact hr.2)).mono ?_)
    rintro ⟨z2, A2⟩ ⟨m1, m2⟩
    simp only at m1 m2
    refine Ok.ret ⟨(h1.trans m1).congr fun i _ _ => ?_, h2.trans m2 h1.cnt.1 m1.cnt.1⟩
    rw [take_snoc hx]; simp
  · rintro ⟨z1, A1⟩ ⟨h1, h2⟩
    rw [List.take_length] at h1
    exact ⟨h1, h2⟩
theorem mcond_ok {c : Cond} (hc : CondOK (A.length : Int) (F.length : Int) c) (hs : SizeOf.sizeOf c ≤ fu) :
    Ok (simplify_sets_cond_p fu ⟨A, F, z⟩ c) fun r => MarkS A r.2.1 (CAt c) ∧ MarkS F r.2.2 (CFl c) ∧ FlagP z A F r.1 r.2.1 r.2.2 := by
  unfold simplify_sets_cond_p
  refine Ok.bind ((marks_loop (fun x hx => hc.p.rng hx) F).mono ?_)
  rintro ⟨z1, A1⟩ ⟨a1, a2⟩
  simp only at a1 a2
  simp only [un2]
  refine Ok.bind ((marks_loop (A := A1) (z := z1) (fun x hx => by rw [a1.len]; exact hc.n.rng hx) F).mono ?_)
  rintro ⟨z2, A2⟩ ⟨b1, b2⟩
  simp only at b1 b2
  have hA : MarkS A A2 (CAt c) := (a1.trans b1).congr fun i _ _ => Iff.rfl
  refine Ok.bind (Ok.forS (fun j (q : Bool × List Bool) => MarkS F q.2 (fun i => ∃ t ∈ c.Tests.take j, FL t.A i ∨ FL t.B i) ∧ Flag z2 F q.1 q.2) ⟨MarkS.refl F (by simp), Flag.refl z2 F⟩ ?_ ?_)
  · rintro j ⟨z3, F3⟩ hj ⟨h1, h2⟩
    simp only at h1 h2
    obtain ⟨t, ht⟩ := get_len hj
    have hm := List.mem_of_getElem? ht
    have hz := test_size hm
    have hT := hc.t t hm
    simp only [un2, idx_nat, ht, Option.bind_some]
    refine Ok.bind ((mexpr_ok fu t.A (by omega) fun i hi => by rw [h1.len]; exact hT.2.1.fl hi).mono ?_)
    rintro ⟨z4, F4⟩ ⟨m1, m2⟩
    simp only at m1 m2
    simp only [un2]
    refine Ok.bind ((mexpr_ok fu t.B (by omega) fun i hi => by rw [m1.len, h1.len]; exact hT.2.2.fl hi).mono ?_)
    rintro ⟨z5, F5⟩ ⟨o1, o2⟩
    simp only at o1 o2
    refine Ok.ret ⟨((h1.trans m1).trans o1).congr fun i _ _ => ?_, (h2.trans m2 h1.cnt.1 m1.cnt.1).trans o2 (h1.trans m1).cnt.1 o1.cnt.1⟩
    rw [take_snoc ht]
    constructor
    · rintro ((⟨t', ht', q⟩ | q) | q)
      · exact ⟨t', by simp [ht'], q⟩
      · exact ⟨t, by simp, .inl q⟩
      · exact ⟨t, by simp, .inr q⟩
    · rintro ⟨t', ht', q⟩
      rcases List.mem_append.1 ht' with ht' | ht'
      · exact .inl (.inl ⟨t', ht', q⟩)
      · simp only [List.mem_singleton] at ht'; subst ht'
        rcases q with q | q
        · exact .inl (.inr q)
        · exact .inr q
  · rintro ⟨z3, F3⟩ ⟨h1, h2⟩
    simp only at h1 h2
    rw [List.take_length] at h1
    exact Ok.ret ⟨hA, h1, (((a2.a (F := F)).trans b2.a a1.ga b1.ga).trans h2.f (a1.trans b1).ga h1.gf)⟩
def Touch (RA RF : Int → Prop) (o : GOp) : Prop := (∃ c ∈ o.Changes, RA c.Atom) ∨ ∃ a ∈ o.Assigns, RF a.Fluent
def OpRule (o : GOp) (RA RF : Int → Prop) : Prop := Touch RA RF o → (∀ i, CAt o.Pre i → RA i) ∧ (∀ i, CFl o.Pre i → RF i) ∧ (∀ c ∈ o.Changes, RA c.Atom → (∀ i, CAt c.When i → RA i) ∧ ∀ i, CFl c.When i → RF i) ∧ ∀ a ∈ o.Assigns, RF a.Fluent ∧ ∀ i, FL a.Value i → RF i
theorem ass_rng {nf : Int} {o : GOp} (h : ∀ j, AssAt nf o.Assigns j) {a : GAssign} (ha : a ∈ o.Assigns) : 0 ≤ a.Fluent ∧ a.Fluent < nf ∧ RE nf a.Value := by
  obtain ⟨i, hi, rfl⟩ := List.getElem_of_mem ha
  have := h i _ (List.getElem?_eq_getElem hi)
  exact ⟨this.1, this.2.1, this.2.2.2⟩
open Classical in
theorem mtouch_ok {o : GOp} (ho : GOpOK (A.length : Int) (F.length : Int) o) : simplify_sets_touches_p ⟨A, F, z⟩ o = some (decide (Touch (Mk A) (Mk F) o)) := by
  unfold simplify_sets_touches_p
  obtain ⟨n1, e1, k1⟩ := find_ok (xs := o.Changes) (B := fun i100 => fun (_ : Unit) => (idx o.Changes (i100 : Int)).bind fun x100 => (simplify_sets_touches_c1_p x100 ⟨A, F, z⟩).bind <| fun (y100 : Bool) => if y100 then (some (Ctl.ret (i100 : Int))) else (some (Ctl.next ()))) (f := fun c => decide (Mk A c.Atom)) (by
    intro i c hc
    have hr := ho.chg c (List.mem_of_getElem? hc)
    have := hr.r0
    have := hr.r1
    obtain ⟨b, hb⟩ := get_len (xs := A) (i := c.Atom.toNat) (by omega)
    simp only [idx_nat, hc, Option.bind_some]
    unfold simplify_sets_touches_c1_p
    rw [idx_int hr.r0, hb]
    have : Mk A c.Atom ↔ b = true := by unfold Mk; rw [hb]; simp [hr.r0]
    cases b <;> simp [this])
  obtain ⟨n2, e2, k2⟩ := find_ok (xs := o.Assigns) (B := fun i100 => fun (_ : Unit) => (idx o.Assigns (i100 : Int)).bind fun x100 => (simplify_sets_touches_c2_p x100 ⟨A, F, z⟩).bind <| fun (y100 : Bool) => if y100 then (some (Ctl.ret (i100 : Int))) else (some (Ctl.next ()))) (f := fun a => decide (Mk F a.Fluent)) (by
    intro i a ha
    have hr := ass_rng ho.as (List.mem_of_getElem? ha)
    obtain ⟨b, hb⟩ := get_len (xs := F) (i := a.Fluent.toNat) (by omega)
    simp only [idx_nat, ha, Option.bind_some]
    unfold simplify_sets_touches_c2_p
    rw [idx_int hr.1, hb]
    have : Mk F a.Fluent ↔ b = true := by unfold Mk; rw [hb]; simp [hr.1]
    cases b <;> simp [this])
  have f1 : api_GChange__f108_p o.Changes ⟨A, F, z⟩ = some (decide (0 ≤ n1)) := by
    unfold api_GChange__f108_p api_GChange__f108_123_p
    rw [e1]; rfl
  have f2 : api_GAssign__f110_p o.Assigns ⟨A, F, z⟩ = some (decide (0 ≤ n2)) := by
    unfold api_GAssign__f110_p api_GAssign__f110_124_p
    rw [e2]; rfl
  rw [f1, f2]
  simp only [Option.bind_some]
  simp only [decide_eq_true_eq] at k1 k2
  by_cases b1 : 0 ≤ n1
  · rw [if_pos (decide_eq_true b1), decide_eq_true (show Touch (Mk A) (Mk F) o from .inl (k1.1 b1))]; rfl
  · rw [if_neg (by simpa using b1)]
    simp only [Option.bind_some]
    congr 1
    exact decide_eq_decide.2 ⟨fun q => .inr (k2.1 q), fun q => q.elim (fun q => absurd (k1.2 q) b1) k2.2⟩
end
end Go.Pw
