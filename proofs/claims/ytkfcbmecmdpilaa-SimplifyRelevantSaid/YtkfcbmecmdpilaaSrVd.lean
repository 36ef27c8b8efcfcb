/-
  Marks on atoms and fluents, in plain Lean: the program's marking of expressions and conditions.
-/
import Derived.Test.YtkfcbmecmdpilaaSrVc
set_option maxHeartbeats 8000000
set_option linter.unusedSimpArgs false
set_option linter.unusedVariables false
namespace Go.Pw
/-- The fluents of an expression. -/
inductive FL : GExpr → Int → Prop
  | here {e : GExpr} : e.Op = sFlu → FL e e.N
  | kid {e k : GExpr} {i : Int} : k ∈ e.Kids → FL k i → FL e i
def CAt (c : Cond) (i : Int) : Prop := i ∈ c.Pos ∨ i ∈ c.Neg
def CFl (c : Cond) (i : Int) : Prop := ∃ t ∈ c.Tests, FL t.A i ∨ FL t.B i
theorem RE.fl {n : Int} {e : GExpr} (h : RE n e) : ∀ {i : Int}, FL e i → 0 ≤ i ∧ i < n := by
  induction h with
  | num a b =>
    intro i hi
    cases hi with
    | here q => simp at q
    | kid q => simp at q
  | flu a b =>
    intro i hi
    cases hi with
    | here q => exact ⟨a, b⟩
    | kid q => simp at q
  | bin ho ha hb iha ihb =>
    intro i hi
    cases hi with
    | here q =>
      simp only at q
      subst q
      rcases ho with h | h | h <;> simp at h
    | kid q r =>
      simp only [List.mem_cons, List.not_mem_nil, or_false] at q
      rcases q with rfl | rfl
      · exact iha r
      · exact ihb r
/-- A' is A with all of S marked. -/
structure MarkS (A A' : List Bool) (S : Int → Prop) : Prop where
  len : A'.length = A.length
  iff : ∀ i : Nat, A'[i]? = some true ↔ A[i]? = some true ∨ (i < A.length ∧ S (i : Int))
theorem MarkS.refl (A : List Bool) {S : Int → Prop} (h : ∀ i, ¬ S i) : MarkS A A S := ⟨rfl, fun i => ⟨.inl, fun q => q.elim id fun q => absurd q.2 (h _)⟩⟩
theorem MarkS.trans {A B C : List Bool} {S T : Int → Prop} (h : MarkS A B S) (k : MarkS B C T) : MarkS A C (fun i => S i ∨ T i) := by
  refine ⟨by rw [k.len, h.len], fun i => ?_⟩
  rw [k.iff, h.iff, h.len]
  constructor
  · rintro ((a | ⟨a, b⟩) | ⟨a, b⟩)
    · exact .inl a
    · exact .inr ⟨a, .inl b⟩
    · exact .inr ⟨a, .inr b⟩
  · rintro (a | ⟨a, b | b⟩)
    · exact .inl (.inl a)
    · exact .inl (.inr ⟨a, b⟩)
    · exact .inr ⟨a, b⟩
theorem MarkS.congr {A A' : List Bool} {S T : Int → Prop} (h : MarkS A A' S) (k : ∀ i, 0 ≤ i → i < (A.length : Int) → (S i ↔ T i)) : MarkS A A' T := by
  refine ⟨h.len, fun i => ?_⟩
  rw [h.iff]
  constructor
  · rintro (a | ⟨a, b⟩)
    · exact .inl a
    · exact .inr ⟨a, (k _ (by omega) (by omega)).1 b⟩
  · rintro (a | ⟨a, b⟩)
    · exact .inl a
    · exact .inr ⟨a, (k _ (by omega) (by omega)).2 b⟩
theorem MarkS.up {A A' : List Bool} {S : Int → Prop} (h : MarkS A A' S) {i : Nat} (q : A[i]? = some true) : A'[i]? = some true := (h.iff i).2 (.inl q)
theorem MarkS.set {A : List Bool} {i : Int} (h0 : 0 ≤ i) (h1 : i < (A.length : Int)) : MarkS A (A.set i.toNat true) (fun j => j = i) := by
  refine ⟨by simp, fun j => ?_⟩
  by_cases e : j = i.toNat
  · subst e
    rw [List.getElem?_set_self (by omega)]
    exact ⟨fun _ => .inr ⟨by omega, by omega⟩, fun _ => rfl⟩
  · rw [List.getElem?_set_ne (Ne.symm e)]
    exact ⟨.inl, fun q => q.elim id fun q => absurd q.2 (by omega)⟩
def cnt (A : List Bool) : Nat := A.count true
theorem cnt_mono : ∀ {A B : List Bool}, B.length = A.length → (∀ i : Nat, A[i]? = some true → B[i]? = some true) → cnt A ≤ cnt B ∧ (cnt A = cnt B → B = A)
  | [], [], _, _ => ⟨Nat.le_refl _, fun _ => rfl⟩
  | a :: A, [], h, _ => by simp at h
  | [], b :: B, h, _ => by simp at h
  | a :: A, b :: B, h, k => by
    obtain ⟨h1, h2⟩ := cnt_mono (A := A) (B := B) (by simpa using h) (fun i hi => by simpa using k (i + 1) (by simpa using hi))
    have k0 : a = true → b = true := fun e => by simpa [e] using k 0 (by simp [e])
    unfold cnt at *
    cases a with
    | true =>
      rw [k0 rfl, List.count_cons_self, List.count_cons_self]
      exact ⟨by omega, fun e => by rw [h2 (by omega)]⟩
    | false =>
      cases b with
      | true =>
        rw [List.count_cons_self, List.count_cons_of_ne (by simp)]
        exact ⟨by omega, fun e => by omega⟩
      | false =>
        rw [List.count_cons_of_ne (by simp), List.count_cons_of_ne (by simp)]
        exact ⟨h1, fun e => by rw [h2 e]⟩
theorem MarkS.cnt {A B : List Bool} {S : Int → Prop} (h : MarkS A B S) : Go.Pw.cnt A ≤ Go.Pw.cnt B ∧ (Go.Pw.cnt A = Go.Pw.cnt B → B = A) := cnt_mono h.len fun i q => h.up q
/-- What the program's flag says. -/
structure Flag (z : Bool) (A : List Bool) (z' : Bool) (A' : List Bool) : Prop where
  q : z' = false → z = false ∧ A' = A
  t : z' = true → z = true ∨ Go.Pw.cnt A < Go.Pw.cnt A'
theorem Flag.refl (z : Bool) (A : List Bool) : Flag z A z A := ⟨fun h => ⟨h, rfl⟩, fun h => .inl h⟩
theorem Flag.trans {z z' z'' : Bool} {A B C : List Bool} (h : Flag z A z' B) (k : Flag z' B z'' C) (m : cnt A ≤ cnt B) (n : cnt B ≤ cnt C) : Flag z A z'' C := by
  refine ⟨fun e => ?_, fun e => ?_⟩
  · obtain ⟨a, b⟩ := k.q e
    obtain ⟨c, d⟩ := h.q a
    exact ⟨c, b.trans d⟩
  · rcases k.t e with a | a
    · rcases h.t a with b | b
      · exact .inl b
      · exact .inr (by omega)
    · exact .inr (by omega)
theorem setI_int {α : Type} {xs : List α} {i : Int} {y : α} (h0 : 0 ≤ i) (h1 : i < (xs.length : Int)) : setI xs i y = some (xs.set i.toNat y) := by
  obtain ⟨n, rfl⟩ := Int.eq_ofNat_of_zero_le h0
  rw [setI_nat (by omega)]; simp
theorem idx_int {α : Type} {xs : List α} {i : Int} (h0 : 0 ≤ i) : idx xs i = xs[i.toNat]? := by unfold idx; rw [if_pos h0]
theorem set_same {A : List Bool} {i : Nat} (h : A[i]? = some true) : A.set i true = A := by
  apply List.ext_getElem?
  intro j
  by_cases e : j = i
  · subst e; rw [List.getElem?_set_self (List.getElem?_eq_some_iff.1 h).1, h]
  · rw [List.getElem?_set_ne (Ne.symm e)]
theorem mark_body {z : Bool} {A : List Bool} {i : Int} (h0 : 0 ≤ i) (h1 : i < (A.length : Int)) :
    Ok (((idx A i).bind fun x100 => (if !x100 then ((setI A i true).bind fun l100 => some (true, l100)) else (some (z, A))).bind (un2 fun (z100 : Bool) (l101 : (List Bool)) => some (z100, l101)))) fun r => MarkS A r.2 (fun j => j = i) ∧ Flag z A r.1 r.2 := by
  obtain ⟨x, hx⟩ := get_len (xs := A) (i := i.toNat) (by omega)
  rw [idx_int h0, hx]
  simp only [Option.bind_some]
  have hm := MarkS.set h0 h1
  cases x with
  | true =>
    simp only [Bool.not_true, Bool.false_eq_true, if_false, Option.bind_some, un2]
    rw [set_same hx] at hm
    exact Ok.ret ⟨hm, Flag.refl z A⟩
  | false =>
    simp only [Bool.not_false, if_true, setI_int h0 h1, Option.bind_some, un2]
    refine Ok.ret ⟨hm, Flag.mk (fun e => by cases e) (fun _ => .inr ?_)⟩
    obtain ⟨a, b⟩ := hm.cnt
    have hne : cnt A ≠ cnt (A.set i.toNat true) := fun e => by
      have := b e
      have h2 : (A.set i.toNat true)[i.toNat]? = some true := List.getElem?_set_self (by omega)
      rw [this, hx] at h2; cases h2
    show cnt A < cnt (A.set i.toNat true)
    omega
theorem mark_a {A F : List Bool} {z : Bool} {i : Int} (h0 : 0 ≤ i) (h1 : i < (A.length : Int)) : Ok (simplify_sets_mark_p ⟨A, F, z⟩ i) fun r => MarkS A r.2 (fun j => j = i) ∧ Flag z A r.1 r.2 := mark_body h0 h1
theorem mark_f {A F : List Bool} {z : Bool} {i : Int} (h0 : 0 ≤ i) (h1 : i < (F.length : Int)) : Ok (simplify_sets_mark_105_p ⟨A, F, z⟩ i) fun r => MarkS F r.2 (fun j => j = i) ∧ Flag z F r.1 r.2 := mark_body h0 h1
theorem take_snoc {α : Type} {l : List α} {i : Nat} {x : α} (h : l[i]? = some x) : l.take (i + 1) = l.take i ++ [x] := by rw [List.take_add_one, h]; rfl
theorem mexpr_ok : ∀ (fu : Nat) {A F : List Bool} {z : Bool} (e : GExpr), SizeOf.sizeOf e < fu → (∀ i, FL e i → 0 ≤ i ∧ i < (F.length : Int)) → Ok (simplify_sets_expr_p fu ⟨A, F, z⟩ e) fun r => MarkS F r.2 (FL e) ∧ Flag z F r.1 r.2
  | 0, A, F, z, e, h, _ => absurd h (Nat.not_lt_zero _)
  | fu + 1, A, F, z, e, h, hr => by
    rw [simplify_sets_expr_p]
    have first : Ok (if decide (e.Op = (⟨#[102, 108, 117, 101, 110, 116]⟩ : ByteArray)) then ((simplify_sets_mark_105_p ⟨A, F, z⟩ e.N).bind <| un2 fun (z100 : Bool) (l100 : (List Bool)) => some (z100, l100)) else (some (z, F))) fun r => MarkS F r.2 (fun i => e.Op = sFlu ∧ i = e.N) ∧ Flag z F r.1 r.2 := by
      by_cases he : e.Op = sFlu
      · rw [if_pos (decide_eq_true he)]
        have hn := hr e.N (.here he)
        refine Ok.bind ((mark_f hn.1 hn.2).mono ?_)
        rintro ⟨z1, l1⟩ ⟨m1, m2⟩
        exact Ok.ret ⟨m1.congr fun i _ _ => ⟨fun q => ⟨he, q⟩, fun q => q.2⟩, m2⟩
      · rw [if_neg (by simpa using he)]
        exact Ok.ret ⟨MarkS.refl F fun i q => he q.1, Flag.refl z F⟩
    refine Ok.bind (first.mono ?_)
    rintro ⟨z1, F1⟩ ⟨m1, m2⟩
    simp only at m1 m2
    simp only [un2]
    refine Ok.bind (Ok.forS (fun j (q : Bool × List Bool) => MarkS F1 q.2 (fun i => ∃ k ∈ e.Kids.take j, FL k i) ∧ Flag z1 F1 q.1 q.2) ⟨MarkS.refl F1 (by simp), Flag.refl z1 F1⟩ ?_ ?_)
    · rintro j ⟨z2, F2⟩ hj ⟨n1, n2⟩
      simp only at n1 n2
      obtain ⟨k, hk⟩ := get_len hj
      have hkm := List.mem_of_getElem? hk
      have hsz := kid_size hkm
      simp only [un2, idx_nat, hk, Option.bind_some]
      refine Ok.bind ((mexpr_ok fu k (by omega) fun i hi => by
        have := hr i (.kid hkm hi)
        rw [n1.len, m1.len]; exact this).mono ?_)
      rintro ⟨z3, F3⟩ ⟨o1, o2⟩
      simp only at o1 o2
      refine Ok.ret ⟨(n1.trans o1).congr fun i _ _ => ?_, n2.trans o2 n1.cnt.1 o1.cnt.1⟩
      rw [take_snoc hk]
      constructor
      · rintro (⟨x, hx, hf⟩ | hf)
        · exact ⟨x, by simp [hx], hf⟩
        · exact ⟨k, by simp, hf⟩
      · rintro ⟨x, hx, hf⟩
        rcases List.mem_append.1 hx with hx | hx
        · exact .inl ⟨x, hx, hf⟩
        · simp only [List.mem_singleton] at hx; subst hx; exact .inr hf
    · rintro ⟨z2, F2⟩ ⟨n1, n2⟩
      simp only at n1 n2
      rw [List.take_length] at n1
      refine Ok.ret ⟨(m1.trans n1).congr fun i _ _ => ?_, m2.trans n2 m1.cnt.1 n1.cnt.1⟩
      constructor
      · rintro (⟨a, rfl⟩ | ⟨k, hk, hf⟩)
        · exact .here a
        · exact .kid hk hf
      · intro hf
        cases hf with
        | here a => exact .inl ⟨a, rfl⟩
        | kid a b => exact .inr ⟨_, a, b⟩
end Go.Pw
