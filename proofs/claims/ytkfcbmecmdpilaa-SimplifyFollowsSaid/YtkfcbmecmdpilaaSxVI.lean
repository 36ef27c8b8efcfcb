/-
  The reference's relevant atoms and fluents are the least closed marks, in plain Lean; the sizes of tasks.
-/
import Derived.Test.YtkfcbmecmdpilaaSxVE
set_option maxHeartbeats 8000000
set_option linter.unusedSimpArgs false
set_option linter.unusedVariables false
namespace Go.Pw
/-- A loop with its counter last. -/
theorem Ok.whileM {S R β : Type} {B : S × Int → Option (Ctl (S × Int) R)} {s : S} {Q : β → Prop} {kr : R → Option β} {k : S × Int → Option β} (n : Nat) (Inv : Nat → S → Prop) (Bp : S × Int → Prop) (Rp : R → Prop) (h0 : Inv 0 s)
    (h : ∀ (j : Nat) (s : S), j ≤ n → Inv j s → Ok (B (s, (j : Int))) fun c => match c with | .next q => j < n ∧ q.2 = ((j + 1 : Nat) : Int) ∧ Inv (j + 1) q.1 | .brk q => Bp q | .ret r => Rp r)
    (hr : ∀ r, Rp r → Ok (kr r) Q) (hk : ∀ q, Bp q → Ok (k q) Q) : Ok (Go.Pw.ctl (whileC B (s, 0)) kr k) Q := by
  refine Ok.while (fun q => ∃ j : Nat, q.2 = (j : Int) ∧ j ≤ n ∧ Inv j q.1) Bp Rp (fun q => n - q.2.toNat) ⟨0, rfl, Nat.zero_le _, h0⟩ ?_ hr hk
  rintro ⟨s, i⟩ ⟨j, hj, hle, hI⟩
  simp only at hj hI
  subst hj
  obtain ⟨c, hc, hP⟩ := h j s hle hI
  refine ⟨c, hc, ?_, ?_, ?_⟩
  · rintro ⟨s', i'⟩ rfl
    simp only at hP
    refine ⟨⟨j + 1, hP.2.1, hP.1, hP.2.2⟩, ?_⟩
    simp only [hP.2.1]
    omega
  · rintro s' rfl; exact hP
  · rintro r rfl; exact hP
theorem cnt_step {A : List Bool} {j : Nat} {b : Bool} (h : A[j]? = some b) : cnt (A.take (j + 1)) = cnt (A.take j) + b.toNat := by
  unfold cnt
  rw [take_snoc h, List.count_append]
  cases b <;> simp
section
variable {fu : Nat} {g : Ground}
/-! ### the size of a task is said always -/
theorem size_ok : ∀ (fu : Nat) (e : GExpr), SizeOf.sizeOf e < fu → WFE e → Ok (law18_size_p fu e) fun _ => True
  | 0, e, h, _ => absurd h (Nat.not_lt_zero _)
  | fu + 1, e, h, hw => by
    rw [law18_size_p]
    have hwk := hw.kids
    refine Ok.whileM e.Kids.length (fun _ _ => True) (fun _ => True) (fun _ => False) trivial ?_ (fun _ h => h.elim) (fun q _ => Ok.ret trivial)
    intro j n hj _
    simp only [un2]
    by_cases hc : (decide ((j : Int) < (e.Kids.length : Int)) && decide (n < 2000)) = true
    · rw [if_pos hc]
      simp only [Bool.and_eq_true, decide_eq_true_eq] at hc
      have hlt : j < e.Kids.length := by omega
      obtain ⟨k, hk⟩ := get_len hlt
      have hkm := List.mem_of_getElem? hk
      have hsz := kid_size hkm
      simp only [idx_nat, hk, Option.bind_some]
      refine Ok.bind ((size_ok fu k (by omega) (hwk.2 k hkm)).mono ?_)
      intro y _
      exact Ok.ret ⟨hlt, wrap_succ hlt hwk.1, trivial⟩
    · rw [if_neg hc]
      exact Ok.ret trivial
/-- A loop over a list, that only sums. -/
theorem Ok.sums {α R β : Type} {B : Int × Int → Option (Ctl (Int × Int) R)} {xs : List α} {m : Int} {kr : R → Option β} {k : Int × Int → Option β} {Q : β → Prop}
    (hb : ∀ n, B (n, (xs.length : Int)) = some (.brk (n, (xs.length : Int))))
    (h : ∀ (n : Int) (i : Nat) x, xs[i]? = some x → Ok (B (n, (i : Int))) fun c => ∃ n', c = .next (n', ((i + 1 : Nat) : Int)))
    (hk : ∀ q, Ok (k q) Q) : Ok (Go.Pw.ctl (whileC B (m, 0)) kr k) Q := by
  refine Ok.whileM xs.length (fun _ _ => True) (fun _ => True) (fun _ => False) trivial ?_ (fun _ h => h.elim) (fun q _ => hk q)
  intro j n hj _
  by_cases hlt : j < xs.length
  · obtain ⟨x, hx⟩ := get_len hlt
    refine (h n j x hx).mono ?_
    rintro c ⟨n', rfl⟩
    exact ⟨hlt, rfl, trivial⟩
  · obtain rfl : j = xs.length := by omega
    rw [hb]
    exact Ok.ret trivial
theorem heavy_ok {c : Cond} (hl : LenC c) (hs : SizeOf.sizeOf c ≤ fu) : Ok (law18_heavy_p fu c) fun _ => True := by
  unfold law18_heavy_p
  refine Ok.sums (xs := c.Tests) (fun n => by simp only [un2]; rw [if_neg (by simp)]) ?_ (fun q => Ok.ret trivial)
  intro n i t ht
  have hm := List.mem_of_getElem? ht
  have hi := (List.getElem?_eq_some_iff.1 ht).1
  have hz := test_size hm
  simp only [un2]
  rw [if_pos (decide_eq_true (by omega))]
  simp only [idx_nat, ht, Option.bind_some]
  refine Ok.bind ((size_ok fu t.A (by omega) (hl.e t hm).1).mono ?_)
  intro _ _
  refine Ok.bind ((size_ok fu t.B (by omega) (hl.e t hm).2).mono ?_)
  intro _ _
  exact Ok.ret ⟨_, by rw [wrap_succ hi hl.t]⟩
theorem large_ok (hl : LenG g) (hs : SizeOf.sizeOf g ≤ fu) : Ok (law18_Large_p fu g) fun _ => True := by
  unfold law18_Large_p
  refine Ok.sums (xs := g.Goal) (fun n => by simp only [un2]; rw [if_neg (by simp)]) ?_ fun q => ?_
  · intro n i c hc
    have hm := List.mem_of_getElem? hc
    have hi := (List.getElem?_eq_some_iff.1 hc).1
    have hz := goal_size hm
    simp only [un2]
    rw [if_pos (decide_eq_true (by omega))]
    simp only [idx_nat, hc, Option.bind_some]
    refine Ok.bind ((heavy_ok (fu := fu) (hl.goal c hm) (by omega)).mono ?_)
    intro _ _
    exact Ok.ret ⟨_, by rw [wrap_succ hi hl.gl]⟩
  obtain ⟨n1, i1⟩ := q
  simp only [un2]
  refine Ok.sums (xs := g.Ops) (fun n => by simp only [un2]; rw [if_neg (by simp)]) ?_ (fun q => Ok.ret trivial)
  intro n i o ho
  have hm := List.mem_of_getElem? ho
  have hi := (List.getElem?_eq_some_iff.1 ho).1
  have hz := op_size hm
  have hp := pre_size o
  have hlo := hl.op o hm
  simp only [un2]
  rw [if_pos (decide_eq_true (by omega))]
  simp only [idx_nat, ho, Option.bind_some]
  refine Ok.bind ((heavy_ok (fu := fu) hlo.pre (by omega)).mono ?_)
  intro _ _
  refine Ok.sums (xs := o.Changes) (fun n => by simp only [un2]; rw [if_neg (by simp)]) ?_ fun q => ?_
  · intro n i c hc
    have hm := List.mem_of_getElem? hc
    have hi := (List.getElem?_eq_some_iff.1 hc).1
    have hz := when_size hm
    simp only [un2]
    rw [if_pos (decide_eq_true (by omega))]
    simp only [idx_nat, hc, Option.bind_some]
    refine Ok.bind ((heavy_ok (fu := fu) (hlo.whn c hm) (by omega)).mono ?_)
    intro _ _
    exact Ok.ret ⟨_, by rw [wrap_succ hi hlo.ch]⟩
  obtain ⟨n2, i2⟩ := q
  simp only [un2]
  refine Ok.sums (xs := o.Assigns) (fun n => by simp only [un2]; rw [if_neg (by simp)]) ?_ (fun q => Ok.ret ⟨_, by rw [wrap_succ hi hl.o]⟩)
  intro n i a ha
  have hm := List.mem_of_getElem? ha
  have hi := (List.getElem?_eq_some_iff.1 ha).1
  have hz := value_size hm
  simp only [un2]
  rw [if_pos (decide_eq_true (by omega))]
  simp only [idx_nat, ha, Option.bind_some]
  refine Ok.bind ((size_ok fu a.Value (by omega) (hlo.val a hm)).mono ?_)
  intro _ _
  exact Ok.ret ⟨_, by rw [wrap_succ hi hlo.as]⟩
end
end Go.Pw
/-
  The sample is awake, in plain Lean.
-/
set_option maxHeartbeats 8000000
set_option maxRecDepth 100000
namespace Go.Pw
abbrev aSets : simplify_sets := ⟨[true, true, false], [], false⟩
theorem sample_valid (fu : Nat) : ground_Valid_p fu law19_sample_t = some true := by with_unfolding_all rfl
theorem while_eval {S R β : Type} {B : S → Option (Ctl S R)} {s : S} {c : Ctl S R} {kr : R → Option β} {k : S → Option β} (n : Nat) (h : iterC B n s = some c) {r : Option β} (e : ctl (some c) kr k = r) : ctl (whileC B s) kr k = r := by
  rw [whileC_of h]; exact e
theorem sample_relevant (fu : Nat) : simplify_relevant_p fu law19_sample_t = some aSets := by
  unfold simplify_relevant_p
  apply Ok.eq
  refine Ok.step (a := [false, false, false]) (by with_unfolding_all rfl) ?_
  refine Ok.step (a := []) (by with_unfolding_all rfl) ?_
  refine Ok.step (a := (true, [false, true, false], [])) (by with_unfolding_all rfl) ?_
  refine Ok.of (while_eval (c := .brk (false, [true, true, false], [])) 5 (by with_unfolding_all rfl) (by with_unfolding_all rfl)) rfl
theorem awake_ok (fu : Nat) : law19_awake_p fu = some true := by
  unfold law19_awake_p simplify_Simplify_p
  rw [sample_valid, sample_relevant]
  with_unfolding_all rfl
end Go.Pw
/-
  SimplifyRelevant, in plain Lean.
-/
set_option maxHeartbeats 8000000
namespace Go.Pw
/-! ### what is known of data read in -/
end Go.Pw
/-
  New numbers, and what stays of a list, in plain Lean.
-/
set_option maxHeartbeats 8000000
namespace Go.Pw
/-- New numbers of what is marked. -/
def numF (A : List Bool) : List Int := (List.range A.length).map fun i => if A[i]? = some true then ((cnt (A.take i) : Nat) : Int) else -1
theorem numF_len (A : List Bool) : (numF A).length = A.length := by simp [numF]
theorem numF_get {A : List Bool} {i : Nat} (h : i < A.length) : (numF A)[i]? = some (if A[i]? = some true then ((cnt (A.take i) : Nat) : Int) else -1) := by
  unfold numF
  rw [List.getElem?_map, List.getElem?_range h]; rfl
def at0 (l : List Int) (i : Int) : Int := (l[i.toNat]?).getD (-1)
theorem idx_at {l : List Int} {i : Int} (h0 : 0 ≤ i) (h1 : i < (l.length : Int)) : idx l i = some (at0 l i) := by
  obtain ⟨x, hx⟩ := get_len (xs := l) (i := i.toNat) (by omega)
  rw [idx_int h0]; unfold at0; rw [hx]; rfl
theorem cnt_take_le (A : List Bool) (j : Nat) : cnt (A.take j) ≤ j := Nat.le_trans (cnt_le _) (List.length_take_le j A)
theorem at0_num {A : List Bool} {i : Int} (h0 : 0 ≤ i) (h1 : i < (A.length : Int)) : at0 (numF A) i = if A[i.toNat]? = some true then ((cnt (A.take i.toNat) : Nat) : Int) else -1 := by
  unfold at0; rw [numF_get (by omega)]; rfl
theorem at0_mk {A : List Bool} {i : Int} (h0 : 0 ≤ i) (h1 : i < (A.length : Int)) : 0 ≤ at0 (numF A) i ↔ Mk A i := by
  rw [at0_num h0 h1]
  unfold Mk
  by_cases h : A[i.toNat]? = some true
  · rw [if_pos h]; exact ⟨fun _ => ⟨h0, h⟩, fun _ => by omega⟩
  · rw [if_neg h]; exact ⟨fun q => absurd q (by omega), fun q => absurd q.2 h⟩
theorem numbers_ok {A : List Bool} (ha : A.length ≤ 4096) : simplify_numbers_o_p A = some (numF A) := by
  apply Ok.eq
  unfold simplify_numbers_o_p
  rw [mk_ok (n := A.length) (by omega) (by omega)]
  simp only [Option.bind_some]
  refine Ok.bind (Ok.forS (fun j (q : Int × List Int) => q.1 = ((cnt (A.take j) : Nat) : Int) ∧ q.2.length = A.length ∧ ∀ i, i < j → q.2[i]? = (numF A)[i]?) ⟨by simp [cnt], by simp, fun i h => absurd h (Nat.not_lt_zero i)⟩ ?_ ?_)
  · rintro j ⟨n, l⟩ hj ⟨rfl, h2, h3⟩
    simp only at h2 h3
    obtain ⟨b, hb⟩ := get_len hj
    obtain ⟨y, hy⟩ := get_len (xs := l) (i := j) (by omega)
    have hst := cnt_step hb
    have hle := cnt_take_le A j
    have hnum := numF_get hj
    simp only [un2, idx_nat, hb, hy, Option.bind_some, setI_nat (show j < l.length by omega)]
    cases b with
    | true =>
      have hs : j < (l.set j (-1)).length := by simp; omega
      obtain ⟨y', hy'⟩ := get_len hs
      simp only [if_true, hy', Option.bind_some, setI_nat hs]
      refine Ok.ret ⟨?_, by simp [h2], fun i hi => ?_⟩
      · show IntKind.i64.wrap _ = _
        rw [wrap_id (by omega) (by omega), hst]; simp
      · show ((l.set j (-1)).set j _)[i]? = _
        by_cases e : i = j
        · subst e
          rw [List.getElem?_set_self hs, hnum, if_pos hb]
        · rw [List.getElem?_set_ne (Ne.symm e), List.getElem?_set_ne (Ne.symm e)]
          exact h3 i (by omega)
    | false =>
      simp only [Bool.false_eq_true, if_false, Option.bind_some]
      refine Ok.ret ⟨?_, by simp [h2], fun i hi => ?_⟩
      · show _ = _
        rw [hst]; simp
      · show (l.set j (-1))[i]? = _
        by_cases e : i = j
        · subst e
          rw [List.getElem?_set_self (by omega), hnum, if_neg (by rw [hb]; simp)]
        · rw [List.getElem?_set_ne (Ne.symm e)]
          exact h3 i (by omega)
  · rintro ⟨n, l⟩ ⟨_, h2, h3⟩
    simp only at h2 h3
    refine Ok.ret ?_
    show l = _
    apply List.ext_getElem?
    intro i
    by_cases hi : i < A.length
    · exact h3 i hi
    · rw [List.getElem?_eq_none (by omega), List.getElem?_eq_none (by rw [numF_len]; omega)]
/-! ### what stays -/
def keep {α : Type} (S : List Bool) (xs : List α) : List α := (List.range xs.length).filterMap fun i => if S[i]? = some true then xs[i]? else none
def keepTo {α : Type} (S : List Bool) (xs : List α) (j : Nat) : List α := (List.range j).filterMap fun i => if S[i]? = some true then xs[i]? else none
theorem keepTo_len {α : Type} (S : List Bool) (xs : List α) : keepTo S xs xs.length = keep S xs := rfl
theorem keepTo_succ {α : Type} {S : List Bool} {xs : List α} {j : Nat} {x : α} (hx : xs[j]? = some x) : keepTo S xs (j + 1) = keepTo S xs j ++ if S[j]? = some true then [x] else [] := by
  unfold keepTo
  rw [List.range_succ, List.filterMap_append]
  congr 1
  by_cases h : S[j]? = some true <;> simp [h, hx]
theorem keepTo_count {α : Type} {S : List Bool} {xs : List α} (hl : xs.length = S.length) : ∀ j, j ≤ S.length → (keepTo S xs j).length = cnt (S.take j)
  | 0, _ => by simp [keepTo, cnt]
  | j + 1, h => by
    obtain ⟨b, hb⟩ := get_len (xs := S) (i := j) (by omega)
    obtain ⟨x, hx⟩ := get_len (xs := xs) (i := j) (by omega)
    rw [keepTo_succ hx, List.length_append, keepTo_count hl j (by omega), cnt_step hb, hb]
    cases b <;> simp
theorem keep_count {α : Type} {S : List Bool} {xs : List α} (hl : xs.length = S.length) : (keep S xs).length = cnt S := by
  rw [← keepTo_len, hl, keepTo_count hl _ (Nat.le_refl _), List.take_length]
theorem keep_get {α : Type} {S : List Bool} {xs : List α} (hl : xs.length = S.length) {i : Nat} {x : α} (hs : S[i]? = some true) (hx : xs[i]? = some x) : (keep S xs)[cnt (S.take i)]? = some x := by
  have hi := (List.getElem?_eq_some_iff.1 hx).1
  have e : xs.length = (i + 1) + (xs.length - (i + 1)) := by omega
  have : keep S xs = keepTo S xs (i + 1) ++ ((List.range (xs.length - (i + 1))).map (fun k => i + 1 + k)).filterMap fun i => if S[i]? = some true then xs[i]? else none := by
    unfold keep keepTo
    rw [← List.filterMap_append, ← List.range_add, ← e]
  rw [this, keepTo_succ hx, if_pos hs, List.append_assoc]
  rw [List.getElem?_append_right (by rw [keepTo_count hl i (by omega)]; exact Nat.le_refl _), keepTo_count hl i (by omega), Nat.sub_self]
  rfl
theorem keep_mem {α : Type} {S : List Bool} {xs : List α} {x : α} : x ∈ keep S xs ↔ ∃ i : Nat, S[i]? = some true ∧ xs[i]? = some x := by
  unfold keep
  rw [List.mem_filterMap]
  constructor
  · rintro ⟨i, _, h⟩
    by_cases hs : S[i]? = some true
    · rw [if_pos hs] at h; exact ⟨i, hs, h⟩
    · rw [if_neg hs] at h; cases h
  · rintro ⟨i, hs, hx⟩
    exact ⟨i, List.mem_range.2 (List.getElem?_eq_some_iff.1 hx).1, by rw [if_pos hs, hx]⟩
theorem keep_at {α : Type} {S : List Bool} {xs : List α} (hl : xs.length = S.length) {p : Nat} {x : α} (h : (keep S xs)[p]? = some x) : ∃ i : Nat, S[i]? = some true ∧ xs[i]? = some x ∧ cnt (S.take i) = p := by
  have key : ∀ j, j ≤ S.length → ∀ p x, (keepTo S xs j)[p]? = some x → ∃ i : Nat, i < j ∧ S[i]? = some true ∧ xs[i]? = some x ∧ cnt (S.take i) = p := by
    intro j
    induction j with
    | zero => intro _ p x h; simp [keepTo] at h
    | succ j ih =>
      intro hj p x h
      obtain ⟨y, hy⟩ := get_len (xs := xs) (i := j) (by omega)
      rw [keepTo_succ hy] at h
      have hc := keepTo_count hl j (by omega)
      by_cases hp : p < (keepTo S xs j).length
      · rw [List.getElem?_append_left hp] at h
        obtain ⟨i, a, b⟩ := ih (by omega) p x h
        exact ⟨i, by omega, b⟩
      · rw [List.getElem?_append_right (by omega)] at h
        by_cases hs : S[j]? = some true
        · rw [if_pos hs] at h
          have : p - (keepTo S xs j).length = 0 := by
            have := (List.getElem?_eq_some_iff.1 h).1
            simp at this; omega
          rw [this] at h
          cases h
          exact ⟨j, by omega, hs, hy, by omega⟩
        · rw [if_neg hs] at h; simp at h
  obtain ⟨i, _, a⟩ := key S.length (Nat.le_refl _) p x (by rw [← hl, keepTo_len]; exact h)
  exact ⟨i, a⟩
theorem cnt_mono_take {A : List Bool} {i j : Nat} (h : i ≤ j) : cnt (A.take i) ≤ cnt (A.take j) := by
  unfold cnt
  exact List.Sublist.count_le _ (by
    have : A.take i = (A.take j).take i := by rw [List.take_take, Nat.min_eq_left h]
    rw [this]; exact List.take_sublist _ _)
theorem cnt_lt_take {A : List Bool} {i j : Nat} (h : i < j) (hi : A[i]? = some true) : cnt (A.take i) < cnt (A.take j) := by
  have := cnt_step hi
  have := cnt_mono_take (A := A) (show i + 1 ≤ j by omega)
  simp at *
  omega
end Go.Pw
