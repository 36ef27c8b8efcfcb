/-
  The reference's maps, numbers and comparisons, in plain Lean.
-/
import Derived.Test.YtkfcbmecmdpilaaSsVM
set_option maxHeartbeats 8000000
set_option linter.unusedSimpArgs false
set_option linter.unusedVariables false
namespace Go.Pw
/-- A loop whose states are known. -/
theorem while_run {S R β : Type} {B : S → Option (Ctl S R)} {kr : R → Option β} {k : S → Option β} {s0 : S} (st : Nat → S) (n : Nat) (h0 : st 0 = s0) (h : ∀ j, j < n → B (st j) = some (.next (st (j + 1)))) (hb : B (st n) = some (.brk (st n))) :
    ctl (whileC B s0) kr k = k (st n) := by
  have key : ∀ m j : Nat, j + m = n → whileC B (st j) = some (.brk (st n)) := by
    intro m
    induction m with
    | zero => intro j hj; obtain rfl : j = n := by omega
              exact whileC_stop hb (by intro s e; cases e)
    | succ m ih =>
      intro j hj
      rw [whileC_next (h j (by omega))]
      exact ih (j + 1) (by omega)
  rw [← h0]
  unfold ctl
  rw [key n 0 (by omega)]
  rfl
/-- A loop that makes one of each. -/
theorem while_map {R β α γ : Type} {B : Int × List γ → Option (Ctl (Int × List γ) R)} {kr : R → Option β} {k : Int × List γ → Option β} (xs : List α) (f : α → γ)
    (h : ∀ (i : Nat) x, xs[i]? = some x → B ((i : Int), (xs.take i).map f) = some (.next (((i + 1 : Nat) : Int), (xs.take i).map f ++ [f x])))
    (hb : ∀ q, B ((xs.length : Int), q) = some (.brk ((xs.length : Int), q))) : ctl (whileC B (0, [])) kr k = k ((xs.length : Int), xs.map f) := by
  rw [while_run (fun j => ((j : Int), (xs.take j).map f)) xs.length (by simp)]
  · simp
  · intro j hj
    obtain ⟨x, hx⟩ := get_len hj
    rw [h j x hx, take_snoc hx, List.map_append]; rfl
  · exact hb _
/-- A loop that keeps some and makes one of each. -/
theorem while_filterMap {R β α γ : Type} {B : Int × List γ → Option (Ctl (Int × List γ) R)} {kr : R → Option β} {k : Int × List γ → Option β} (xs : List α) (p : α → Bool) (f : α → γ)
    (h : ∀ (i : Nat) x, xs[i]? = some x → B ((i : Int), ((xs.take i).filter p).map f) = some (.next (((i + 1 : Nat) : Int), ((xs.take i).filter p).map f ++ if p x then [f x] else [])))
    (hb : ∀ q, B ((xs.length : Int), q) = some (.brk ((xs.length : Int), q))) : ctl (whileC B (0, [])) kr k = k ((xs.length : Int), (xs.filter p).map f) := by
  rw [while_run (fun j => ((j : Int), ((xs.take j).filter p).map f)) xs.length (by simp)]
  · simp
  · intro j hj
    obtain ⟨x, hx⟩ := get_len hj
    rw [h j x hx, take_snoc hx, List.filter_append, List.map_append]
    congr 4
    cases hp : p x <;> simp [hp]
  · exact hb _
theorem lt_len {α : Type} {xs : List α} {i : Nat} {x : α} (h : xs[i]? = some x) : decide ((i : Int) < (xs.length : Int)) = true := decide_eq_true (by have := (List.getElem?_eq_some_iff.1 h).1; omega)
theorem not_lt_len {α : Type} (xs : List α) : ¬ decide ((xs.length : Int) < (xs.length : Int)) = true := by simp
/-! ### maps -/
theorem rmapE_ok {to : List Int} {A O : List Int} : ∀ (fu : Nat) (e : GExpr), SizeOf.sizeOf e < fu → RE (to.length : Int) e → ref19_Map_expr_p fu ⟨A, to, O⟩ e = some (mapE (at0 to) e)
  | 0, e, h, _ => absurd h (Nat.not_lt_zero _)
  | fu + 1, e, h, hr => by
    obtain ⟨hk2, hk, hN⟩ := hr.kids
    rw [ref19_Map_expr_p]
    by_cases he : e.Op = sFlu
    · have := hN he
      rw [if_pos (decide_eq_true he)]
      simp only [idx_at this.1 this.2, Option.bind_some]
      cases hr with
      | num a b => simp at he
      | flu a b => simp [mapE, mapEs]
      | bin ho ha hb =>
        simp only at he
        subst he
        rcases ho with h | h | h <;> simp at h
    · rw [if_neg (by simpa using he)]
      rw [while_map e.Kids (mapE (at0 to))]
      rotate_left
      · intro i k hx
        have hm := List.mem_of_getElem? hx
        have hi := (List.getElem?_eq_some_iff.1 hx).1
        have hz := kid_size hm
        have hle := List.length_take_le i e.Kids
        simp only [un2]
        rw [if_pos (lt_len hx)]
        simp only [idx_nat, hx, Option.bind_some]
        rw [rmapE_ok fu k (by omega) (hk k hm)]
        simp only [Option.bind_some]
        rw [app_ok (by simp; omega), wrap_succ hi (by omega)]
        rfl
      · intro q
        simp only [un2]
        rw [if_neg (not_lt_len _)]
      simp only [un2]
      cases e
      rw [mapE, mapEs_eq, if_neg he]
theorem exprO_eq : ∀ (fu : Nat) (m : ref19_Map) (e : GExpr), ref19_Map_expr_o_p fu m e = ref19_Map_expr_p fu m e
  | 0, _, _ => rfl
  | fu + 1, m, e => by
    rw [ref19_Map_expr_o_p, ref19_Map_expr_p]
    simp only [exprO_eq fu]
theorem condO_eq (fu : Nat) (m : ref19_Map) (c : Cond) : ref19_Map_cond_o_p fu m c = ref19_Map_cond_p fu m c := by
  unfold ref19_Map_cond_o_p ref19_Map_cond_p
  simp only [exprO_eq]
theorem opO_eq (fu : Nat) (m : ref19_Map) (o : GOp) : ref19_Map_operator_o_p fu m o = ref19_Map_operator_p fu m o := by
  unfold ref19_Map_operator_o_p ref19_Map_operator_p
  simp only [exprO_eq, condO_eq]
theorem beatenO_eq (fu : Nat) (g : Ground) (k : ref19_Marks) (m : ref19_Map) (i : Int) : ref19_beaten_o_p fu g k m i = ref19_beaten_p fu g k m i := by
  unfold ref19_beaten_o_p ref19_beaten_p
  simp only [opO_eq]
section
variable {fu : Nat} {A F O : List Int}
theorem rmapC_ok {c : Cond} (hc : CondOK (A.length : Int) (F.length : Int) c) (hl : LenC c) (hA : A.length ≤ 4096) (hr : RoomC c) (hs : SizeOf.sizeOf c ≤ fu) : ref19_Map_cond_p fu ⟨A, F, O⟩ c = some (mapC (at0 A) (at0 F) c) := by
  unfold ref19_Map_cond_p
  have l1 := hc.p.len_le
  have l2 := hc.n.len_le
  have along : ∀ (l : List Int) (i : Nat) (x : Int), (∀ y ∈ l, 0 ≤ y ∧ y < (A.length : Int)) → l.length ≤ A.length → l[i]? = some x →
      ((idx l (i : Int)).bind fun x100 => (idx A x100).bind fun x101 => (app 8 ((l.take i).map (at0 A)) [x101]).bind fun l100 => some (Ctl.next (S := Int × List Int) (R := Cond) (IntKind.i64.wrap ((i : Int) + 1), l100))) = some (.next (((i + 1 : Nat) : Int), (l.take i).map (at0 A) ++ [at0 A x])) := by
    intro l i x hl hn hx
    have := hl x (List.mem_of_getElem? hx)
    have hi := (List.getElem?_eq_some_iff.1 hx).1
    have hle := List.length_take_le i l
    simp only [idx_nat, hx, Option.bind_some, idx_at this.1 this.2]
    rw [app_ok (by simp; omega), wrap_succ hi (by omega)]
    rfl
  rw [while_map c.Pos (at0 A)]
  rotate_left
  · intro i x hx
    simp only [un2]
    rw [if_pos (lt_len hx)]
    exact along c.Pos i x (fun y hy => hc.p.rng hy) l1 hx
  · intro q
    simp only [un2]
    rw [if_neg (not_lt_len _)]
  simp only [un2]
  rw [while_map c.Neg (at0 A)]
  rotate_left
  · intro i x hx
    simp only [un2]
    rw [if_pos (lt_len hx)]
    exact along c.Neg i x (fun y hy => hc.n.rng hy) l2 hx
  · intro q
    simp only [un2]
    rw [if_neg (not_lt_len _)]
  simp only [un2]
  rw [while_map c.Tests (mapT (at0 F))]
  rotate_left
  · intro i t ht
    have hm := List.mem_of_getElem? ht
    have hi := (List.getElem?_eq_some_iff.1 ht).1
    have hz := test_size hm
    have hT := hc.t t hm
    have hle := List.length_take_le i c.Tests
    unfold RoomC at hr
    simp only [un2]
    rw [if_pos (lt_len ht)]
    simp only [idx_nat, ht, Option.bind_some]
    rw [rmapE_ok fu t.A (by omega) hT.2.1, rmapE_ok fu t.B (by omega) hT.2.2]
    simp only [Option.bind_some]
    rw [app_ok (by
      rw [List.length_map, List.length_take, Nat.min_eq_left (by omega)]
      refine Nat.le_trans (Nat.mul_le_mul_right _ ?_) hr
      simp; omega), wrap_succ hi hl.t]
    rfl
  · intro q
    simp only [un2]
    rw [if_neg (not_lt_len _)]
  rfl
theorem rmapO_ok {o : GOp} (ho : GOpOK (A.length : Int) (F.length : Int) o) (hl : LenO o) (hA : A.length ≤ 4096) (hF : F.length ≤ 4096) (hr : RoomO o) (hs : SizeOf.sizeOf o ≤ fu) : ref19_Map_operator_p fu ⟨A, F, O⟩ o = some (mapO (at0 A) (at0 F) o) := by
  unfold ref19_Map_operator_p
  have hp := pre_size o
  have hnc := ho.nc
  have hal := assigns_len ho.as
  rw [rmapC_ok ho.pre hl.pre hA hr.1 (by omega)]
  simp only [Option.bind_some]
  rw [while_filterMap o.Changes (fun c => decide (0 ≤ at0 A c.Atom)) (mapH (at0 A) (at0 F))]
  rotate_left
  · intro i c hc
    have hm := List.mem_of_getElem? hc
    have hi := (List.getElem?_eq_some_iff.1 hc).1
    have hz := when_size hm
    have hC := ho.chg c hm
    have hle := List.length_take_le i o.Changes
    have hfl := List.length_filter_le (fun c => decide (0 ≤ at0 A c.Atom)) (o.Changes.take i)
    simp only [un2]
    rw [if_pos (lt_len hc)]
    simp only [idx_nat, hc, Option.bind_some, idx_at hC.r0 hC.r1]
    rw [wrap_succ hi hl.ch]
    by_cases h0 : 0 ≤ at0 A c.Atom
    · rw [if_pos (decide_eq_true h0), if_pos (decide_eq_true h0), rmapC_ok hC.w (hl.whn c hm) hA (hr.2 c hm) (by omega)]
      simp only [Option.bind_some]
      rw [app_ok (by rw [List.length_map]; simp only [List.length_cons, List.length_nil]; omega)]
      rfl
    · rw [if_neg (by simpa using h0), if_neg (by simpa using h0)]
      simp
  · intro q
    simp only [un2]
    rw [if_neg (not_lt_len _)]
  simp only [un2]
  rw [while_map o.Assigns (mapG (at0 F))]
  rotate_left
  · intro i a ha
    have hm := List.mem_of_getElem? ha
    have hi := (List.getElem?_eq_some_iff.1 ha).1
    have hz := value_size hm
    have hr := ass_rng ho.as hm
    have hle := List.length_take_le i o.Assigns
    simp only [un2]
    rw [if_pos (lt_len ha)]
    simp only [idx_nat, ha, Option.bind_some, idx_at hr.1 hr.2.1]
    rw [rmapE_ok fu a.Value (by omega) hr.2.2]
    simp only [Option.bind_some]
    rw [app_ok (by rw [List.length_map]; simp only [List.length_cons, List.length_nil]; omega), wrap_succ hi hl.as]
    rfl
  · intro q
    simp only [un2]
    rw [if_neg (not_lt_len _)]
  rfl
end
/-! ### numbers -/
theorem rnumbers_ok {A : List Bool} (ha : A.length ≤ 4096) : ref19_numbers_p A = some (numF A) := by
  unfold ref19_numbers_p
  rw [while_run (fun j => ((numF A).take j, ((cnt (A.take j) : Nat) : Int), (j : Int))) A.length (by simp [cnt])]
  · simp only [un3]
    rw [← numF_len A, List.take_length]
  · intro j hj
    obtain ⟨b, hb⟩ := get_len hj
    have hst := cnt_step hb
    have hle := cnt_take_le A j
    have hnum := numF_get hj
    have htl := List.length_take_le j (numF A)
    simp only [un3]
    rw [if_pos (lt_len hb)]
    simp only [idx_nat, hb, Option.bind_some]
    rw [take_snoc hnum, wrap_succ hj (by omega), hst, hb]
    cases b with
    | true =>
      simp only [if_true]
      rw [app_ok (by simp only [List.length_cons, List.length_nil]; omega)]
      simp only [Option.bind_some, un2]
      rw [wrap_id (by omega) (by omega)]
      simp
    | false =>
      simp only [Bool.false_eq_true, if_false]
      rw [app_ok (by simp only [List.length_cons, List.length_nil]; omega)]
      simp [un2]
  · simp only [un3]
    rw [if_neg (not_lt_len _)]
open Classical in
theorem in_ok {l : List Int} {n : Int} (hl : l.length ≤ 9223372036854775807) : ref18_In_p l n = some (decide (n ∈ l)) := by
  unfold ref18_In_p
  rw [ctl_whileP (xs := l) (r := true) (fun x => x ≠ n)]
  · by_cases h : n ∈ l
    · rw [if_neg (fun q => q n h rfl), decide_eq_true h]
    · rw [if_pos (fun x hx e => h (by rw [← e]; exact hx)), decide_eq_false h]
  · intro i x hx
    have hi := (List.getElem?_eq_some_iff.1 hx).1
    rw [if_pos (lt_len hx)]
    simp only [idx_nat, hx, Option.bind_some, wrap_succ hi hl]
    by_cases e : x = n <;> simp [e]
  · rw [if_neg (not_lt_len _)]
/-! ### comparisons -/
open Classical in
theorem weq {α R β : Type} {xs ys : List α} {B : Int → Option (Ctl Int R)} {r : R} {kr : R → Option β} {k : Int → Option β} (hl : xs.length = ys.length)
    (h : ∀ (i : Nat) x y, xs[i]? = some x → ys[i]? = some y → B (i : Int) = some (if decide (x = y) then .next ((i + 1 : Nat) : Int) else .ret r)) (hb : B (xs.length : Int) = some (.brk (xs.length : Int))) :
    ctl (whileC B 0) kr k = if xs = ys then k (xs.length : Int) else kr r := by
  rw [while_all (r := r) (n := xs.length) (p := fun i => decide (xs[i]? = ys[i]?))]
  · by_cases he : xs = ys
    · subst he
      rw [if_pos rfl, if_pos (by simp)]
    · rw [if_neg he, if_neg]
      intro hall
      apply he
      apply List.ext_getElem?
      intro i
      by_cases hi : i < xs.length
      · exact of_decide_eq_true (List.all_eq_true.1 hall i (List.mem_range.2 hi))
      · rw [List.getElem?_eq_none (by omega), List.getElem?_eq_none (by omega)]
  · intro i hi
    obtain ⟨x, hx⟩ := get_len hi
    obtain ⟨y, hy⟩ := get_len (xs := ys) (i := i) (by omega)
    rw [h i x y hx hy]
    congr 1
    simp only [hx, hy, Option.some.injEq]
  · exact hb
theorem len_ne {α β : Type} {xs : List α} {ys : List β} (h : xs.length ≠ ys.length) : (!decide ((xs.length : Int) = (ys.length : Int))) = true := by simp; omega
theorem len_eq {α β : Type} {xs : List α} {ys : List β} (h : xs.length = ys.length) : (!decide ((xs.length : Int) = (ys.length : Int))) = false := by simp; omega
open Classical in
theorem rints_ok {xs ys : List Int} (hn : xs.length ≤ 9223372036854775807) : ref18_ints_p xs ys = some (decide (xs = ys)) := by
  unfold ref18_ints_p
  by_cases hl : xs.length = ys.length
  · rw [len_eq hl, if_neg (by simp), weq (r := false) hl]
    · by_cases e : xs = ys <;> simp [e]
    · intro i x y hx hy
      have hi := (List.getElem?_eq_some_iff.1 hx).1
      rw [if_pos (lt_len hx)]
      simp only [idx_nat, hx, hy, Option.bind_some, wrap_succ hi hn]
      by_cases e : x = y <;> simp [e]
    · rw [if_neg (not_lt_len _)]
  · rw [if_pos (len_ne hl), decide_eq_false fun e : xs = ys => hl (by rw [e])]
open Classical in
theorem rsameE_ok : ∀ (fu : Nat) (a b : GExpr), SizeOf.sizeOf a < fu → WFE a → ref18_sameExpr_p fu a b = some (decide (a = b))
  | 0, a, b, h, _ => absurd h (Nat.not_lt_zero _)
  | fu + 1, ⟨op, N, ks⟩, ⟨op', N', ks'⟩, h, hw => by
    rw [ref18_sameExpr_p]
    have hwk := hw.kids
    simp only at hwk ⊢
    by_cases h1 : op = op'
    rotate_left
    · rw [if_pos (by simp [h1]), decide_eq_false (by simp [h1])]
    by_cases h2 : N = N'
    rotate_left
    · rw [if_pos (by simp [h2]), decide_eq_false (by simp [h2])]
    by_cases h3 : ks.length = ks'.length
    rotate_left
    · rw [if_pos (by rw [len_ne h3]; simp), decide_eq_false (by intro e; cases e; exact h3 rfl)]
    rw [if_neg (by rw [len_eq h3]; simp [h1, h2]), weq (r := false) h3]
    · by_cases e : ks = ks' <;> simp [h1, h2, e]
    · intro i x y hx hy
      have hi := (List.getElem?_eq_some_iff.1 hx).1
      have hm := List.mem_of_getElem? hx
      have hz := kid_size (e := ⟨op, N, ks⟩) hm
      rw [if_pos (lt_len hx)]
      simp only [idx_nat, hx, hy, Option.bind_some, wrap_succ hi hwk.1]
      rw [rsameE_ok fu x y (by omega) (hwk.2 x hm)]
      by_cases e : x = y <;> simp [e]
    · rw [if_neg (not_lt_len _)]
section
variable {fu : Nat}
open Classical in
theorem rsameT_ok {a b : GTest} (h1 : SizeOf.sizeOf a.A < fu) (h2 : SizeOf.sizeOf a.B < fu) (w1 : WFE a.A) (w2 : WFE a.B) : ref18_sameTest_p fu a b = some (decide (a = b)) := by
  unfold ref18_sameTest_p
  rw [rsameE_ok fu _ _ h1 w1, rsameE_ok fu _ _ h2 w2]
  obtain ⟨o, p, q⟩ := a
  obtain ⟨o', p', q'⟩ := b
  by_cases h1 : o = o'
  · by_cases h2 : p = p'
    · by_cases h3 : q = q' <;> simp [h1, h2, h3]
    · simp [h1, h2]
  · simp [h1]
open Classical in
theorem rsameC_ok {a b : Cond} (hl : LenC a) (hs : SizeOf.sizeOf a ≤ fu) : ref18_SameCond_p fu a b = some (decide (a = b)) := by
  unfold ref18_SameCond_p
  rw [rints_ok hl.p, rints_ok hl.n]
  by_cases h1 : a.Pos = b.Pos
  rotate_left
  · rw [decide_eq_false (fun e : a = b => h1 (by rw [e]))]; simp [h1]
  by_cases h2 : a.Neg = b.Neg
  rotate_left
  · rw [decide_eq_false (fun e : a = b => h2 (by rw [e]))]; simp [h1, h2]
  simp only [h1, h2, decide_true, Option.bind_some, Bool.not_true, Bool.false_eq_true, if_false]
  by_cases h3 : a.Tests.length = b.Tests.length
  rotate_left
  · rw [len_ne h3, decide_eq_false (fun e : a = b => h3 (by rw [e]))]; simp
  rw [len_eq h3, if_neg (by simp), weq (r := false) h3]
  · obtain ⟨p, n, t⟩ := a
    obtain ⟨p', n', t'⟩ := b
    simp only at h1 h2
    subst h1 h2
    by_cases e : t = t' <;> simp [e]
  · intro i x y hx hy
    have hi := (List.getElem?_eq_some_iff.1 hx).1
    have hm := List.mem_of_getElem? hx
    have hz := test_size hm
    rw [if_pos (lt_len hx)]
    simp only [idx_nat, hx, hy, Option.bind_some, wrap_succ hi hl.t]
    rw [rsameT_ok (by omega) (by omega) (hl.e x hm).1 (hl.e x hm).2]
    by_cases e : x = y <;> simp [e]
  · rw [if_neg (not_lt_len _)]
open Classical in
theorem rsameO_ok {a b : GOp} (hl : LenO a) (hs : SizeOf.sizeOf a ≤ fu) : ref18_SameOp_p fu a b = some (decide (Alike a b)) := by
  have hp := pre_size a
  unfold ref18_SameOp_p
  rw [rsameC_ok hl.pre (by omega)]
  by_cases h1 : a.Pre = b.Pre
  rotate_left
  · rw [decide_eq_false (fun e : Alike a b => h1 e.1)]; simp [h1]
  by_cases h2 : a.Changes.length = b.Changes.length
  rotate_left
  · rw [len_ne h2, decide_eq_false (fun e : Alike a b => h2 (by rw [e.2.1]))]; simp [h1]
  by_cases h3 : a.Assigns.length = b.Assigns.length
  rotate_left
  · rw [len_ne h3, decide_eq_false (fun e : Alike a b => h3 (by rw [e.2.2]))]; simp [h1, len_eq h2]
  rw [len_eq h2, len_eq h3]
  simp only [h1, decide_true, Option.bind_some, Bool.not_true, Bool.false_eq_true, if_false]
  rw [weq (r := false) h2]
  rotate_left
  · intro i x y hx hy
    have hi := (List.getElem?_eq_some_iff.1 hx).1
    have hm := List.mem_of_getElem? hx
    have hz := when_size hm
    rw [if_pos (lt_len hx)]
    simp only [idx_nat, hx, hy, Option.bind_some, wrap_succ hi hl.ch]
    rw [rsameC_ok (hl.whn x hm) (by omega)]
    obtain ⟨w, a, d⟩ := x
    obtain ⟨w', a', d'⟩ := y
    by_cases e1 : a = a'
    · by_cases e2 : d = d'
      · by_cases e3 : w = w' <;> simp [e1, e2, e3]
      · simp [e1, e2]
    · simp [e1]
  · rw [if_neg (not_lt_len _)]
  by_cases h4 : a.Changes = b.Changes
  rotate_left
  · rw [if_neg h4, decide_eq_false (fun e : Alike a b => h4 e.2.1)]
  rw [if_pos h4, weq (r := false) h3]
  · by_cases h5 : a.Assigns = b.Assigns
    · rw [if_pos h5, decide_eq_true (show Alike a b from ⟨h1, h4, h5⟩)]
    · rw [if_neg h5, decide_eq_false (fun e : Alike a b => h5 e.2.2)]
  · intro i x y hx hy
    have hi := (List.getElem?_eq_some_iff.1 hx).1
    have hm := List.mem_of_getElem? hx
    have hz := value_size hm
    rw [if_pos (lt_len hx)]
    simp only [idx_nat, hx, hy, Option.bind_some, wrap_succ hi hl.as]
    rw [rsameE_ok fu x.Value y.Value (by omega) (hl.val x hm)]
    obtain ⟨f, v⟩ := x
    obtain ⟨f', v'⟩ := y
    by_cases e1 : f = f'
    · by_cases e2 : v = v' <;> simp [e1, e2]
    · simp [e1]
  · rw [if_neg (not_lt_len _)]
end
end Go.Pw
/-
  The reference's simplified task, in plain Lean.
-/
set_option maxHeartbeats 8000000
namespace Go.Pw
theorem wfe_map (f : Int → Int) {e : GExpr} (h : WFE e) : WFE (mapE f e) := by
  induction h with
  | mk hl hk ih =>
    rw [mapE, mapEs_eq]
    refine .mk (by simpa using hl) fun k hk' => ?_
    obtain ⟨x, hx, rfl⟩ := List.mem_map.1 hk'
    exact ih x hx
theorem lenC_map {a f : Int → Int} {c : Cond} (h : LenC c) : LenC (mapC a f c) := by
  refine ⟨by simpa [mapC] using h.p, by simpa [mapC] using h.n, by simpa [mapC] using h.t, fun t ht => ?_⟩
  obtain ⟨x, hx, rfl⟩ := List.mem_map.1 ht
  exact ⟨wfe_map f (h.e x hx).1, wfe_map f (h.e x hx).2⟩
theorem lenO_map {a f : Int → Int} {o : GOp} (h : LenO o) : LenO (mapO a f o) := by
  refine ⟨h.nm, lenC_map h.pre, ?_, fun c hc => ?_, by simpa [mapO] using h.as, fun x hx => ?_⟩
  · have := List.length_filter_le (fun c : GChange => decide (0 ≤ a c.Atom)) o.Changes
    have := h.ch
    simp only [mapO, List.length_map]
    omega
  · obtain ⟨x, hx, rfl⟩ := List.mem_map.1 hc
    exact lenC_map (h.whn x (List.mem_filter.1 hx).1)
  · obtain ⟨y, hy, rfl⟩ := List.mem_map.1 hx
    exact wfe_map f (h.val y hy)
theorem keepTo_mem {α : Type} {S : List Bool} {xs : List α} {j : Nat} {x : α} (h : x ∈ keepTo S xs j) : x ∈ xs := by
  unfold keepTo at h
  obtain ⟨i, _, hi⟩ := List.mem_filterMap.1 h
  by_cases hs : S[i]? = some true
  · rw [if_pos hs] at hi; exact List.mem_of_getElem? hi
  · rw [if_neg hs] at hi; cases hi
theorem Asc.pw {l : List Int} {n : Int} (h : Asc l n) : l.Pairwise (· < ·) := by
  have key : ∀ (d i : Nat) (x y : Int), l[i]? = some x → l[i + d + 1]? = some y → x < y := by
    intro d
    induction d with
    | zero => intro i x y hx hy; exact (h (i + 1) y hy).2.2 x (by omega) hx
    | succ d ih =>
      intro i x y hx hy
      obtain ⟨z, hz⟩ := get_len (xs := l) (i := i + d + 1) (by have := (List.getElem?_eq_some_iff.1 hy).1; omega)
      have h1 := ih i x z hx hz
      have h2 := (h (i + (d + 1) + 1) y hy).2.2 z (by omega) hz
      omega
  refine List.pairwise_iff_getElem.2 fun i j hi hj hij => ?_
  obtain ⟨d, rfl⟩ : ∃ d, j = i + d + 1 := ⟨j - i - 1, by omega⟩
  exact key d i _ _ (List.getElem?_eq_getElem hi) (List.getElem?_eq_getElem hj)
open Classical in
theorem filter_step : ∀ {l : List Int}, l.Pairwise (· < ·) → ∀ j : Int, l.filter (fun x => decide (x < j + 1)) = l.filter (fun x => decide (x < j)) ++ if j ∈ l then [j] else []
  | [], _, j => by simp
  | x :: xs, h, j => by
    obtain ⟨h1, h2⟩ := List.pairwise_cons.1 h
    have ih := filter_step h2 j
    rcases Int.lt_trichotomy x j with a | a | a
    · rw [List.filter_cons_of_pos (by simp; omega), List.filter_cons_of_pos (by simp; omega), ih]
      have : (j ∈ x :: xs) ↔ j ∈ xs := by simp; omega
      simp only [this, List.cons_append]
    · subst a
      have e1 : xs.filter (fun y => decide (y < x + 1)) = [] := by
        rw [List.filter_eq_nil_iff]; intro y hy; have := h1 y hy; simp; omega
      have e2 : xs.filter (fun y => decide (y < x)) = [] := by
        rw [List.filter_eq_nil_iff]; intro y hy; have := h1 y hy; simp; omega
      rw [List.filter_cons_of_pos (by simp; omega), List.filter_cons_of_neg (by simp), e1, e2]
      simp
    · have e1 : xs.filter (fun y => decide (y < j + 1)) = [] := by
        rw [List.filter_eq_nil_iff]; intro y hy; have := h1 y hy; simp; omega
      have e2 : xs.filter (fun y => decide (y < j)) = [] := by
        rw [List.filter_eq_nil_iff]; intro y hy; have := h1 y hy; simp; omega
      rw [List.filter_cons_of_neg (by simp; omega), List.filter_cons_of_neg (by simp; omega), e1, e2]
      have : ¬ j ∈ x :: xs := by
        simp only [List.mem_cons]
        rintro (e | e)
        · omega
        · have := h1 j e; omega
      simp [this]
/-- The new numbers of the true atoms below j. -/
noncomputable def initTo (A : List Bool) (I : List Int) (j : Nat) : List Int := ((I.filter fun x => decide (x < (j : Int))).filter fun i => decide (0 ≤ at0 (numF A) i)).map (at0 (numF A))
theorem initTo_le (A : List Bool) (I : List Int) (j : Nat) : (initTo A I j).length ≤ I.length := by
  unfold initTo
  rw [List.length_map]
  exact Nat.le_trans (List.length_filter_le _ _) (List.length_filter_le _ _)
open Classical in
theorem initTo_succ {A : List Bool} {I : List Int} {n : Int} (h : Asc I n) (j : Nat) : initTo A I (j + 1) = initTo A I j ++ if (j : Int) ∈ I ∧ 0 ≤ at0 (numF A) (j : Int) then [at0 (numF A) (j : Int)] else [] := by
  unfold initTo
  have := filter_step h.pw (j : Int)
  rw [show ((j + 1 : Nat) : Int) = (j : Int) + 1 by omega, this, List.filter_append, List.map_append]
  congr 1
  by_cases h1 : (j : Int) ∈ I
  · by_cases h2 : 0 ≤ at0 (numF A) (j : Int)
    · simp [h1, h2]
    · simp [h1, h2]
  · simp [h1]
section
variable {fu : Nat} {g : Ground} {A F : List Bool}
open Classical in
theorem rtouch_eq {o : GOp} (ho : GOpOK (A.length : Int) (F.length : Int) o) (hl : LenO o) : ref19_Marks_Touches_p ⟨A, F⟩ o = some (decide (Touch (Mk A) (Mk F) o)) := by
  obtain ⟨b, e, hb⟩ := rtouch_ok ho hl
  have : ref19_Marks_Touches_p ⟨A, F⟩ o = ref19_Marks_Touches_o_p ⟨A, F⟩ o := rfl
  rw [this, e]
  congr 1
  rw [Bool.eq_iff_iff, hb]; simp
open Classical in
theorem rbeaten_ok (hv : ValidG g) (hl : LenG g) (hr : RoomG g) (la : A.length = g.Atoms.length) (lf : F.length = g.Fluents.length) (hs : SizeOf.sizeOf g ≤ fu) (hm : ∀ x ∈ mapL A F g, SizeOf.sizeOf x ≤ fu) {O : List Int} {i : Nat} (hi : i < g.Ops.length) :
    ref19_beaten_p fu g ⟨A, F⟩ ⟨numF A, numF F, O⟩ (i : Int) = some (decide (∃ j, (touL A F g)[j]? = some true ∧ Beats (mapL A F g) j i)) := by
  have hn := hv.o
  have hna := hv.a
  have hnf := hv.f
  obtain ⟨o, ho⟩ := get_len hi
  have hmo := List.mem_of_getElem? ho
  have hz := op_size hmo
  have hO : ∀ x ∈ g.Ops, GOpOK (A.length : Int) (F.length : Int) x := fun x hx => by rw [la, lf]; exact hv.op x hx
  have hM : ∀ (j : Nat) x, g.Ops[j]? = some x → (mapL A F g)[j]? = some (mapO (at0 (numF A)) (at0 (numF F)) x) := fun j x hx => by unfold mapL; rw [List.getElem?_map, hx]; rfl
  have hT : ∀ (j : Nat) x, g.Ops[j]? = some x → ((touL A F g)[j]? = some true ↔ Touch (Mk A) (Mk F) x) := fun j x hx => by unfold touL; rw [List.getElem?_map, hx]; simp
  have hmap : ∀ x ∈ g.Ops, ref19_Map_operator_p fu ⟨numF A, numF F, O⟩ x = some (mapO (at0 (numF A)) (at0 (numF F)) x) := fun x hx =>
    rmapO_ok (by rw [numF_len, numF_len]; exact hO x hx) (hl.op x hx) (by rw [numF_len]; omega) (by rw [numF_len]; omega) (hr.2 x hx) (by have := op_size hx; omega)
  unfold ref19_beaten_p
  simp only [idx_nat, ho, Option.bind_some]
  rw [hmap o hmo]
  simp only [Option.bind_some]
  rw [while_all (r := true) (n := g.Ops.length) (p := fun j => decide (¬ ((touL A F g)[j]? = some true ∧ Beats (mapL A F g) j i)))]
  · by_cases h : ∃ j, (touL A F g)[j]? = some true ∧ Beats (mapL A F g) j i
    · rw [decide_eq_true h, if_neg]
      obtain ⟨j, h1, h2⟩ := h
      intro hall
      have hj : j < g.Ops.length := by
        have := (List.getElem?_eq_some_iff.1 h1).1
        simpa [touL] using this
      exact (of_decide_eq_true (List.all_eq_true.1 hall j (List.mem_range.2 hj))) ⟨h1, h2⟩
    · rw [decide_eq_false h, if_pos]
      rw [List.all_eq_true]
      exact fun j _ => decide_eq_true fun q => h ⟨j, q⟩
  · intro j hj
    obtain ⟨x, hx⟩ := get_len hj
    have hmx := List.mem_of_getElem? hx
    rw [if_pos (lt_len hx), wrap_succ hj hl.o]
    have hB : Beats (mapL A F g) j i ↔ i ≠ j ∧ (x.Cost < o.Cost ∨ x.Cost = o.Cost ∧ j < i) ∧ Alike (mapO (at0 (numF A)) (at0 (numF F)) o) (mapO (at0 (numF A)) (at0 (numF F)) x) := by
      constructor
      · rintro ⟨x', y', e1, e2, r⟩
        rw [hM i o ho] at e1; rw [hM j x hx] at e2
        cases e1; cases e2
        exact r
      · intro r; exact ⟨_, _, hM i o ho, hM j x hx, r⟩
    have hTj := hT j x hx
    have key : ¬ ((touL A F g)[j]? = some true ∧ Beats (mapL A F g) j i) ↔ ¬ (Touch (Mk A) (Mk F) x ∧ i ≠ j ∧ (x.Cost < o.Cost ∨ x.Cost = o.Cost ∧ j < i) ∧ Alike (mapO (at0 (numF A)) (at0 (numF F)) x) (mapO (at0 (numF A)) (at0 (numF F)) o)) := by
      rw [hTj, hB]
      have : Alike (mapO (at0 (numF A)) (at0 (numF F)) o) (mapO (at0 (numF A)) (at0 (numF F)) x) ↔ Alike (mapO (at0 (numF A)) (at0 (numF F)) x) (mapO (at0 (numF A)) (at0 (numF F)) o) := ⟨fun h => ⟨h.1.symm, h.2.1.symm, h.2.2.symm⟩, fun h => ⟨h.1.symm, h.2.1.symm, h.2.2.symm⟩⟩
      rw [this]
    simp only [key]
    have hcost : (mapO (at0 (numF A)) (at0 (numF F)) o).Cost = o.Cost := rfl
    simp only [idx_nat, hx, Option.bind_some, hcost]
    rw [rtouch_eq (hO x hmx) (hl.op x hmx), hmap x hmx]
    simp only [Option.bind_some]
    rw [rsameO_ok (lenO_map (hl.op x hmx)) (hm _ (List.mem_of_getElem? (hM j x hx)))]
    by_cases e1 : j = i
    · subst e1; simp
    · have e1' : ¬ ((j : Int) = (i : Int)) := by omega
      have e1'' : ¬ i = j := fun e => e1 e.symm
      by_cases e2 : Touch (Mk A) (Mk F) x
      rotate_left
      · simp [e1', e2]
      by_cases e3 : Alike (mapO (at0 (numF A)) (at0 (numF F)) x) (mapO (at0 (numF A)) (at0 (numF F)) o)
      rotate_left
      · simp [e1', e2, e3]
      by_cases e4 : x.Cost < o.Cost
      · simp [e1', e1'', e2, e3, e4]
      by_cases e5 : x.Cost = o.Cost
      rotate_left
      · simp [e1', e2, e3, e4, e5]
      by_cases e6 : j < i
      · simp [e1', e1'', e2, e3, e5, e6]
      · simp [e1', e1'', e2, e3, e5, e6]
  · rw [if_neg (not_lt_len _)]
theorem rsimplify_ok (hv : ValidG g) (hl : LenG g) (hr : RoomG g) (hs : SizeOf.sizeOf g ≤ fu) (hL : Least g A F) (hm : ∀ x ∈ mapL A F g, SizeOf.sizeOf x ≤ fu) :
    ref19_Simplify_p fu g = some (true, simpG A F g, ⟨numF A, numF F, numF (staL A F g)⟩) := by
  have la := hL.la
  have lf := hL.lf
  have hn := hv.o
  have hna := hv.a
  have hnf := hv.f
  have hgl := hv.gl
  have hil := hv.i.len_le
  unfold ref19_Simplify_p
  rw [refValid_ok hl hs]
  obtain ⟨d, e1, h1⟩ := rrelevant_ok hv hl hs
  obtain ⟨ea, ef⟩ := h1.uniq hL
  obtain ⟨A', F'⟩ := d
  simp only at ea ef
  subst ea ef
  simp only [hv, decide_true, Bool.not_true, Bool.false_eq_true, if_false, Option.bind_some, e1]
  rw [rnumbers_ok (by omega), rnumbers_ok (by omega)]
  simp only [Option.bind_some]
  rw [while_run (fun j => ((j : Int), keepTo A' g.Atoms j, initTo A' g.Init j)) g.Atoms.length (by
    have : g.Init.filter (fun x => decide (x < ((0 : Nat) : Int))) = [] := by
      rw [List.filter_eq_nil_iff]; intro y hy; have := (hv.i.rng hy).1; simp; omega
    simp only [keepTo, initTo, this]; rfl)]
  rotate_left
  · intro j hj
    obtain ⟨x, hx⟩ := get_len hj
    obtain ⟨b, hb⟩ := get_len (xs := A') (i := j) (by omega)
    have c1 := keepTo_le A' g.Atoms j
    have c2 := initTo_le A' g.Init j
    have hst := initTo_succ (A := A') hv.i j
    simp only [un3]
    rw [if_pos (lt_len hx), wrap_succ hj hl.a, keepTo_succ hx, hst]
    have hmk := at0_mk (A := A') (i := (j : Int)) (by omega) (by omega)
    rw [mk_nat', hb] at hmk
    simp only [idx_nat, hb, hx, Option.bind_some]
    cases b with
    | true =>
      have h0 : 0 ≤ at0 (numF A') (j : Int) := hmk.2 rfl
      simp only [if_true]
      rw [app_ok (by simp only [List.length_cons, List.length_nil]; omega), in_ok (by omega)]
      simp only [Option.bind_some]
      by_cases hin : (j : Int) ∈ g.Init
      · have hi : (numF A')[j]? = some (at0 (numF A') (j : Int)) := by
          have := idx_at (l := numF A') (i := (j : Int)) (by omega) (by rw [numF_len]; omega)
          rwa [idx_nat] at this
        rw [if_pos (decide_eq_true hin), hi]
        simp only [Option.bind_some]
        rw [app_ok (by simp only [List.length_cons, List.length_nil]; omega), if_pos ⟨hin, h0⟩]
        rfl
      · rw [if_neg (by simpa using hin), if_neg (fun q => hin q.1)]
        simp [un2]
    | false =>
      have h0 : ¬ 0 ≤ at0 (numF A') (j : Int) := fun h => by have := hmk.1 h; cases this
      simp [un2]
      intro _
      omega
  · simp only [un3]
    rw [if_neg (not_lt_len _)]
  simp only [un3]
  rw [while_run (fun j => ((j : Int), keepTo F' g.Fluents j)) g.Fluents.length (by simp [keepTo])]
  rotate_left
  · intro j hj
    obtain ⟨x, hx⟩ := get_len hj
    obtain ⟨b, hb⟩ := get_len (xs := F') (i := j) (by omega)
    have c1 := keepTo_le F' g.Fluents j
    simp only [un2]
    rw [if_pos (lt_len hx), wrap_succ hj hl.f, keepTo_succ hx, hb]
    simp only [idx_nat, hb, hx, Option.bind_some]
    cases b with
    | true =>
      simp only [if_true]
      rw [app_ok (by simp only [List.length_cons, List.length_nil]; omega)]
      rfl
    | false => simp
  · simp only [un2]
    rw [if_neg (not_lt_len _)]
  simp only [un2]
  rw [while_map g.Goal (mapC (at0 (numF A')) (at0 (numF F')))]
  rotate_left
  · intro i c hc
    have hcm := List.mem_of_getElem? hc
    have hi := (List.getElem?_eq_some_iff.1 hc).1
    have hz := goal_size hcm
    have hle := List.length_take_le i g.Goal
    simp only [un2]
    rw [if_pos (lt_len hc), wrap_succ hi hl.gl]
    simp only [idx_nat, hc, Option.bind_some]
    rw [rmapC_ok (by rw [numF_len, numF_len, la, lf]; exact hv.goal c hcm) (hl.goal c hcm) (by rw [numF_len]; omega) (hr.1 c hcm) (by omega)]
    simp only [Option.bind_some]
    rw [app_ok (by rw [List.length_map]; simp only [List.length_cons, List.length_nil]; omega)]
    rfl
  · intro q
    simp only [un2]
    rw [if_neg (not_lt_len _)]
  simp only [un2]
  have lM : (mapL A' F' g).length = g.Ops.length := by simp [mapL]
  have lS : (staL A' F' g).length = g.Ops.length := by unfold staL; rw [stayL_len, lM]
  rw [while_run (fun j => ((j : Int), (numF (staL A' F' g)).take j, keepTo (staL A' F' g) (mapL A' F' g) j)) g.Ops.length (by simp [keepTo])]
  rotate_left
  · intro j hj
    obtain ⟨x, hx⟩ := get_len hj
    have hmx := List.mem_of_getElem? hx
    have hz := op_size hmx
    have hO : GOpOK (A'.length : Int) (F'.length : Int) x := by rw [la, lf]; exact hv.op x hmx
    have hM : (mapL A' F' g)[j]? = some (mapO (at0 (numF A')) (at0 (numF F')) x) := by unfold mapL; rw [List.getElem?_map, hx]; rfl
    have hT : (touL A' F' g)[j]? = some true ↔ Touch (Mk A') (Mk F') x := by unfold touL; rw [List.getElem?_map, hx]; simp
    have hS := stayL_get (T := touL A' F' g) (M := mapL A' F' g) (i := j) (by omega)
    have hnum := numF_get (A := staL A' F' g) (i := j) (by omega)
    have c1 := keepTo_le (staL A' F' g) (mapL A' F' g) j
    have c2 := keepTo_count (S := staL A' F' g) (xs := mapL A' F' g) (by omega) j (by omega)
    have c3 := List.length_take_le j (numF (staL A' F' g))
    simp only [un3]
    rw [if_pos (lt_len hx), wrap_succ hj hl.o, keepTo_succ hM, take_snoc hnum]
    simp only [idx_nat, hx, Option.bind_some]
    rw [rtouch_eq hO (hl.op x hmx), beatenO_eq, rbeaten_ok hv hl hr la lf hs hm hj]
    have no : ¬ (staL A' F' g)[j]? = some true → (app 8 ((numF (staL A' F' g)).take j) [(-1 : Int)]).bind (fun l108 => some (Ctl.next (S := Int × List Int × List GOp) (R := Bool × Ground × ref19_Map) (((j + 1 : Nat) : Int), l108, keepTo (staL A' F' g) (mapL A' F' g) j))) =
        some (.next (((j + 1 : Nat) : Int), (numF (staL A' F' g)).take j ++ [if (staL A' F' g)[j]? = some true then ((cnt ((staL A' F' g).take j) : Nat) : Int) else -1], keepTo (staL A' F' g) (mapL A' F' g) j ++ if (staL A' F' g)[j]? = some true then [mapO (at0 (numF A')) (at0 (numF F')) x] else [])) := by
      intro h
      rw [app_ok (by simp only [List.length_cons, List.length_nil]; omega), if_neg h, if_neg h]
      simp
    by_cases t : Touch (Mk A') (Mk F') x
    · by_cases b : ∃ k, (touL A' F' g)[k]? = some true ∧ Beats (mapL A' F' g) k j
      · have h : ¬ (staL A' F' g)[j]? = some true := fun q => (hS.1 q).2 b
        simp only [t, b, decide_true, Bool.not_true, Bool.false_eq_true, if_false, Option.bind_some, if_true]
        exact no h
      · have h : (staL A' F' g)[j]? = some true := hS.2 ⟨hT.2 t, b⟩
        simp only [t, b, decide_true, decide_false, Bool.not_true, Bool.false_eq_true, if_false, Option.bind_some]
        rw [app_ok (by simp only [List.length_cons, List.length_nil]; omega)]
        simp only [Option.bind_some]
        rw [opO_eq, rmapO_ok (by rw [numF_len, numF_len]; exact hO) (hl.op x hmx) (by rw [numF_len]; omega) (by rw [numF_len]; omega) (hr.2 x hmx) (by omega)]
        simp only [Option.bind_some]
        rw [app_ok (by simp only [List.length_cons, List.length_nil]; omega), if_pos h, if_pos h, c2]
        rfl
    · have h : ¬ (staL A' F' g)[j]? = some true := fun q => t (hT.1 (hS.1 q).1)
      simp only [t, decide_false, Bool.not_false, if_true, Option.bind_some]
      exact no h
  · simp only [un3]
    rw [if_neg (not_lt_len _)]
  simp only [un3]
  have hI : initTo A' g.Init g.Atoms.length = (g.Init.filter fun i => decide (0 ≤ at0 (numF A') i)).map (at0 (numF A')) := by
    unfold initTo
    rw [List.filter_eq_self.2 (fun x hx => decide_eq_true (hv.i.rng hx).2)]
  have hk := keepTo_len (staL A' F' g) (mapL A' F' g)
  rw [lM] at hk
  have hnl := numF_len (staL A' F' g)
  rw [hI, hk, keepTo_len, keepTo_len, show g.Ops.length = (numF (staL A' F' g)).length by omega, List.take_length]
  rfl
end
end Go.Pw
/-
  A task is the same as itself; SimplifyTasks, in plain Lean.
-/
set_option maxHeartbeats 8000000
namespace Go.Pw
theorem lenG_simp {g : Ground} {A F : List Bool} (hl : LenG g) : LenG (simpG A F g) := by
  have h1 := keepTo_le A g.Atoms g.Atoms.length
  have h2 := keepTo_le F g.Fluents g.Fluents.length
  have h3 := List.length_filter_le (fun i => decide (0 ≤ at0 (numF A) i)) g.Init
  have h4 := keepTo_le (staL A F g) (mapL A F g) (mapL A F g).length
  have lM : (mapL A F g).length = g.Ops.length := by simp [mapL]
  refine ⟨Nat.le_trans h1 hl.a, Nat.le_trans h2 hl.f, ?_, ?_, ?_, fun c hc => ?_, fun o ho => ?_⟩
  · simp only [simpG, List.length_map]; have := hl.i; omega
  · simp only [simpG, List.length_map]; exact hl.gl
  · rw [lM] at h4
    have h5 := keepTo_len (staL A F g) (mapL A F g)
    rw [lM] at h5
    simp only [simpG]; rw [← h5]; have := hl.o; omega
  · obtain ⟨x, hx, rfl⟩ := List.mem_map.1 hc
    exact lenC_map (hl.goal x hx)
  · obtain ⟨i, _, hi⟩ := keep_mem.1 ho
    obtain ⟨x, hx, rfl⟩ := List.mem_map.1 (List.mem_of_getElem? hi)
    exact lenO_map (hl.op x hx)
theorem roomC_map {a f : Int → Int} {c : Cond} (h : RoomC c) : RoomC (mapC a f c) := by
  unfold RoomC at *
  simpa [mapC] using h
theorem roomO_map {a f : Int → Int} {o : GOp} (h : RoomO o) : RoomO (mapO a f o) := by
  refine ⟨roomC_map h.1, fun c hc => ?_⟩
  obtain ⟨x, hx, rfl⟩ := List.mem_map.1 hc
  exact roomC_map (h.2 x (List.mem_filter.1 hx).1)
theorem roomT_simp {g : Ground} {A F : List Bool} (hr : RoomT g) : RoomT (simpG A F g) := by
  refine ⟨⟨fun c hc => ?_, fun o ho => ?_⟩, fun x hx => hr.a x (keepTo_mem hx), fun x hx => hr.f x (keepTo_mem hx)⟩
  · obtain ⟨x, hx, rfl⟩ := List.mem_map.1 hc
    exact roomC_map (hr.c.1 x hx)
  · obtain ⟨x, hx, rfl⟩ := List.mem_map.1 (keepTo_mem ho)
    exact roomO_map (hr.c.2 x hx)
theorem compare_same {a : Atom} (h : a.Args.length * 16 ≤ 140737488355328) : ref10_Compare_p a a = some 0 := by
  unfold ref10_Compare_p
  rw [if_neg (by simp)]
  rw [while_run (s0 := (0 : Int)) (fun j => (j : Int)) a.Args.length (by simp)]
  rotate_left
  · intro j hj
    obtain ⟨x, hx⟩ := get_len hj
    rw [lt_len hx]
    simp only [Bool.and_self, if_true, idx_nat, hx, Option.bind_some]
    rw [sLt_irrefl, wrap_succ hj (by omega)]
    simp
  · rw [if_neg (by simp)]
  simp only [Int.sub_self]
  rfl
section
variable {fu : Nat}
open Classical in
theorem same_ok {h : Ground} (hl : LenG h) (hr : RoomT h) (hs : SizeOf.sizeOf h ≤ fu) : ref18_Same_p fu h h = some true := by
  unfold ref18_Same_p
  have atoms : ref10_SameAtoms_p h.Atoms h.Atoms = some true := by
    unfold ref10_SameAtoms_p
    rw [if_neg (by simp)]
    rw [ctl_whileP (xs := h.Atoms) (r := false) (fun _ => True)]
    · rw [if_pos (fun _ _ => trivial)]
    · intro i x hx
      have hi := (List.getElem?_eq_some_iff.1 hx).1
      rw [if_pos (lt_len hx)]
      simp only [idx_nat, hx, Option.bind_some, wrap_succ hi hl.a]
      rw [compare_same (hr.a x (List.mem_of_getElem? hx))]
      simp
    · rw [if_neg (not_lt_len _)]
  rw [atoms, rints_ok hl.i]
  simp only [Option.bind_some, decide_true, Bool.not_true, Bool.false_eq_true, if_false]
  rw [ctl_whileP (xs := h.Fluents) (r := false) (fun _ => True)]
  rotate_left
  · intro i x hx
    have hi := (List.getElem?_eq_some_iff.1 hx).1
    rw [if_pos (lt_len hx)]
    simp only [idx_nat, hx, Option.bind_some, wrap_succ hi hl.f]
    rw [compare_same (hr.f x (List.mem_of_getElem? hx))]
    simp
  · rw [if_neg (not_lt_len _)]
  rw [if_pos (fun _ _ => trivial), ctl_whileP (xs := h.Goal) (r := false) (fun _ => True)]
  rotate_left
  · intro i x hx
    have hi := (List.getElem?_eq_some_iff.1 hx).1
    have hm := List.mem_of_getElem? hx
    have hz := goal_size hm
    rw [if_pos (lt_len hx)]
    simp only [idx_nat, hx, Option.bind_some, wrap_succ hi hl.gl]
    rw [rsameC_ok (hl.goal x hm) (by omega)]
    simp
  · rw [if_neg (not_lt_len _)]
  rw [if_pos (fun _ _ => trivial), ctl_whileP (xs := h.Ops) (r := false) (fun _ => True)]
  rotate_left
  · intro i x hx
    have hi := (List.getElem?_eq_some_iff.1 hx).1
    have hm := List.mem_of_getElem? hx
    have hz := op_size hm
    rw [if_pos (lt_len hx)]
    simp only [idx_nat, hx, Option.bind_some, wrap_succ hi hl.o]
    rw [rsameO_ok (hl.op x hm) (by omega)]
    simp [Alike]
  · rw [if_neg (not_lt_len _)]
  rw [if_pos (fun _ _ => trivial)]
open Classical in
theorem bints_ok (xs ys : List Int) : base_Ints_p xs ys = some (decide (xs = ys)) := by
  unfold base_Ints_p
  refine eqf_ok fun _ i x y hx hy => ?_
  simp only [idx_nat, hx, hy, Option.bind_some]
  by_cases e : x = y <;> simp [e]
theorem simplify_no {g : Ground} (hv : ¬ ValidG g) (hl : LenG g) (hs : SizeOf.sizeOf g ≤ fu) : simplify_Simplify_p fu g = some (some 2, ⟨[], [], [], [], []⟩, ⟨[], [], []⟩) := by
  unfold simplify_Simplify_p
  rw [valid_ok hl hs]
  simp [hv]
theorem rsimplify_no {g : Ground} (hv : ¬ ValidG g) (hl : LenG g) (hs : SizeOf.sizeOf g ≤ fu) : ref19_Simplify_p fu g = some (false, ⟨[], [], [], [], []⟩, ⟨[], [], []⟩) := by
  unfold ref19_Simplify_p
  rw [refValid_ok hl hs]
  simp [hv]
theorem lenG_nil : LenG ⟨[], [], [], [], []⟩ := ⟨by simp, by simp, by simp, by simp, by simp, by simp, by simp⟩
theorem roomT_nil : RoomT ⟨[], [], [], [], []⟩ := ⟨⟨by simp, by simp⟩, by simp, by simp⟩
/-- The start of each law. -/
theorem law_start {β : Type} {g : Ground} (hl : LenG g) (hs : SizeOf.sizeOf g ≤ fu) {K : Bool → Option β} {r : Option β} (h1 : K true = r) (h0 : g.Ops.length ≤ 30 → K false = r) :
    (((law18_Large_p fu g).bind fun (y100 : Bool) => if y100 then (some true) else (if decide (30 < (g.Ops.length : Int)) then (some true) else ((law19_awake_p fu).bind fun (y101 : Bool) => some (!y101)))).bind K) = r := by
  obtain ⟨b, hb, _⟩ := large_ok (fu := fu) hl hs
  rw [hb, awake_ok]
  simp only [Option.bind_some]
  cases b with
  | true => simpa using h1
  | false =>
    by_cases h : 30 < (g.Ops.length : Int)
    · simpa [h] using h1
    · have : ¬ 30 < g.Ops.length := by omega
      simpa [h, this] using h0 (by omega)
/-- Fuel for all that is made of a task. -/
noncomputable def fuelOf (A F : List Bool) (g : Ground) : Nat := SizeOf.sizeOf g + SizeOf.sizeOf (mapL A F g) + SizeOf.sizeOf (simpG A F g)
theorem fuel_map {A F : List Bool} {g : Ground} : ∀ x ∈ mapL A F g, SizeOf.sizeOf x ≤ fuelOf A F g := fun x hx => by
  have := List.sizeOf_lt_of_mem hx
  unfold fuelOf; omega
theorem simplifyTasks_ok {g : Ground} (hl : LenG g) (hr : RoomT g) : ∃ fu, law19_SimplifyTasks_p fu g = some true := by
  by_cases hv : ValidG g
  · obtain ⟨s, _, hL⟩ := mrelevant_ok hv (Nat.le_refl _)
    generalize hA : s.atoms = A at hL
    generalize hF : s.fluents = F at hL
    refine ⟨fuelOf A F g, ?_⟩
    have hs : SizeOf.sizeOf g ≤ fuelOf A F g := by unfold fuelOf; omega
    have hs2 : SizeOf.sizeOf (simpG A F g) ≤ fuelOf A F g := by unfold fuelOf; omega
    unfold law19_SimplifyTasks_p
    refine law_start hl hs ?_ fun _ => ?_
    · simp [awake_ok]
    simp only [Bool.false_eq_true, if_false]
    rw [simplify_ok hv hl hr hs hL fuel_map, rsimplify_ok hv hl hr.c hs hL fuel_map]
    simp only [Option.bind_some, un3, Bool.not_true, Bool.false_eq_true, if_false, Option.isNone_none, if_true]
    rw [same_ok (lenG_simp hl) (roomT_simp hr) hs2, bints_ok, bints_ok, bints_ok]
    simp
  · refine ⟨SizeOf.sizeOf g + SizeOf.sizeOf (⟨[], [], [], [], []⟩ : Ground), ?_⟩
    have hs : SizeOf.sizeOf g ≤ SizeOf.sizeOf g + SizeOf.sizeOf (⟨[], [], [], [], []⟩ : Ground) := by omega
    unfold law19_SimplifyTasks_p
    refine law_start hl hs ?_ fun _ => ?_
    · simp [awake_ok]
    simp only [Bool.false_eq_true, if_false]
    rw [simplify_no hv hl hs, rsimplify_no hv hl hs]
    simp only [Option.bind_some, un3, Bool.not_false, if_true]
    rw [same_ok lenG_nil roomT_nil (by omega)]
    have : base_Is_t (some 2) 2 = true := by with_unfolding_all rfl
    rw [this]
    with_unfolding_all rfl
end
end Go.Pw
/-
  What is known of data read in, with its room.
-/
set_option maxHeartbeats 4000000
namespace Go.Pw
abbrev WfCW (c : Cond) : Prop := (c.Pos.length ≤ maxLen ∧ c.Pos.length * 8 ≤ 140737488351232 ∧ ∀ y ∈ c.Pos, (Lit.int .i64 y).wf = true) ∧ (c.Neg.length ≤ maxLen ∧ c.Neg.length * 8 ≤ 140737488351232 ∧ ∀ y ∈ c.Neg, (Lit.int .i64 y).wf = true) ∧ (c.Tests.length ≤ maxLen ∧ c.Tests.length * 112 ≤ 140737488351232 ∧ ∀ t ∈ c.Tests, (t.Op.size ≤ maxLen) ∧ WFE t.A ∧ WFE t.B)
theorem lenC_ofW {c : Cond} (h : WfCW c) : LenC c := ⟨h.1.1, h.2.1.1, h.2.2.1, fun t ht => (h.2.2.2.2 t ht).2⟩
theorem roomC_ofW {c : Cond} (h : WfCW c) : RoomC c := by unfold RoomC; have := h.2.2.2.1; omega
theorem lenG_ofW {g : Ground} {A F I G1 O1 : Prop} {P C1 S1 : GOp → Prop} {Q : GChange → Prop} {R : GAssign → Prop} (h : (g.Atoms.length ≤ maxLen ∧ A) ∧ (g.Fluents.length ≤ maxLen ∧ F) ∧ (g.Init.length ≤ maxLen ∧ I) ∧ (g.Goal.length ≤ maxLen ∧ G1 ∧ ∀ c ∈ g.Goal, WfCW c) ∧
    (g.Ops.length ≤ maxLen ∧ O1 ∧ ∀ o ∈ g.Ops, (o.Name.size ≤ maxLen) ∧ P o ∧ WfCW o.Pre ∧ (o.Changes.length ≤ maxLen ∧ C1 o ∧ ∀ c ∈ o.Changes, WfCW c.When ∧ Q c) ∧ (o.Assigns.length ≤ maxLen ∧ S1 o ∧ ∀ a ∈ o.Assigns, R a ∧ WFE a.Value))) : LenG g :=
  ⟨h.1.1, h.2.1.1, h.2.2.1.1, h.2.2.2.1.1, h.2.2.2.2.1, fun c hc => lenC_ofW (h.2.2.2.1.2.2 c hc), fun o ho =>
    let k := h.2.2.2.2.2.2 o ho
    ⟨k.1, lenC_ofW k.2.2.1, k.2.2.2.1.1, fun c hc => lenC_ofW (k.2.2.2.1.2.2 c hc).1, k.2.2.2.2.1, fun a ha => (k.2.2.2.2.2.2 a ha).2⟩⟩
theorem roomT_ofW {g : Ground} {A0 A1 F0 F1 I G0 G1 O0 O1 : Prop} {A2 A3 A4 : Atom → Prop} {F2 F3 F4 F5 : GFluent → Prop} {N P C0 C1 S1 : GOp → Prop} {Q : GChange → Prop} (h : (A0 ∧ A1 ∧ ∀ x ∈ g.Atoms, A2 x ∧ (A3 x ∧ x.Args.length * 16 ≤ 140737488351232 ∧ A4 x)) ∧
    (F0 ∧ F1 ∧ ∀ x ∈ g.Fluents, (F2 x ∧ (F3 x ∧ x.Fluent.Args.length * 16 ≤ 140737488351232 ∧ F4 x)) ∧ F5 x) ∧ I ∧ (G0 ∧ G1 ∧ ∀ c ∈ g.Goal, WfCW c) ∧
    (O0 ∧ O1 ∧ ∀ o ∈ g.Ops, N o ∧ P o ∧ WfCW o.Pre ∧ (C0 o ∧ C1 o ∧ ∀ c ∈ o.Changes, WfCW c.When ∧ Q c) ∧ S1 o)) : RoomT g :=
  ⟨⟨fun c hc => roomC_ofW (h.2.2.2.1.2.2 c hc), fun o ho => ⟨roomC_ofW (h.2.2.2.2.2.2 o ho).2.2.1, fun c hc => roomC_ofW ((h.2.2.2.2.2.2 o ho).2.2.2.1.2.2 c hc).1⟩⟩,
    fun x hx => by have := (h.1.2.2 x hx).2.2.1; omega, fun x hx => by have := (h.2.1.2.2 x hx).1.2.2.1; omega⟩
end Go.Pw
