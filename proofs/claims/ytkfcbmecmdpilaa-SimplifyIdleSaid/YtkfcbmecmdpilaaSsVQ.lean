/-
  The reference's maps, numbers and comparisons, in plain Lean.
-/
import Derived.Test.YtkfcbmecmdpilaaSsVM
set_option maxHeartbeats 8000000
set_option linter.unusedSimpArgs false
set_option linter.unusedVariables false
namespace Go.Pw
/-- A loop whose states are known. -/
theorem while_run {S R β : Type} {B : S → Option (Ctl S R)} {kr : R → Option β} {k : S → Option β} {s0 : S} (st : Nat → S) (n : Nat) (h0 : st 0 = s0) (h : ∀ j, j < n → B (st j) = some (.next (st (j + 1)))) (hb : B (st n) = some (.brk (st n))) :
    ctl (whileC B s0) kr k = k (st n) := by
  have key : ∀ m j : Nat, j + m = n → whileC B (st j) = some (.brk (st n)) := by
    intro m
    induction m with
    | zero => intro j hj; obtain rfl : j = n := by omega
              exact whileC_stop hb (by intro s e; cases e)
    | succ m ih =>
      intro j hj
      rw [whileC_next (h j (by omega))]
      exact ih (j + 1) (by omega)
  rw [← h0]
  unfold ctl
  rw [key n 0 (by omega)]
  rfl
theorem lt_len {α : Type} {xs : List α} {i : Nat} {x : α} (h : xs[i]? = some x) : decide ((i : Int) < (xs.length : Int)) = true := decide_eq_true (by have := (List.getElem?_eq_some_iff.1 h).1; omega)
theorem not_lt_len {α : Type} (xs : List α) : ¬ decide ((xs.length : Int) < (xs.length : Int)) = true := by simp
/-! ### maps -/
section
variable {fu : Nat} {A F O : List Int}
end
/-! ### numbers -/
/-! ### comparisons -/
open Classical in
theorem weq {α R β : Type} {xs ys : List α} {B : Int → Option (Ctl Int R)} {r : R} {kr : R → Option β} {k : Int → Option β} (hl : xs.length = ys.length)
    (h : ∀ (i : Nat) x y, xs[i]? = some x → ys[i]? = some y → B (i : Int) = some (if decide (x = y) then .next ((i + 1 : Nat) : Int) else .ret r)) (hb : B (xs.length : Int) = some (.brk (xs.length : Int))) :
    ctl (whileC B 0) kr k = if xs = ys then k (xs.length : Int) else kr r := by
  rw [while_all (r := r) (n := xs.length) (p := fun i => decide (xs[i]? = ys[i]?))]
  · by_cases he : xs = ys
    · subst he
      rw [if_pos rfl, if_pos (by simp)]
    · rw [if_neg he, if_neg]
      intro hall
      apply he
      apply List.ext_getElem?
      intro i
      by_cases hi : i < xs.length
      · exact of_decide_eq_true (List.all_eq_true.1 hall i (List.mem_range.2 hi))
      · rw [List.getElem?_eq_none (by omega), List.getElem?_eq_none (by omega)]
  · intro i hi
    obtain ⟨x, hx⟩ := get_len hi
    obtain ⟨y, hy⟩ := get_len (xs := ys) (i := i) (by omega)
    rw [h i x y hx hy]
    congr 1
    simp only [hx, hy, Option.some.injEq]
  · exact hb
theorem len_ne {α β : Type} {xs : List α} {ys : List β} (h : xs.length ≠ ys.length) : (!decide ((xs.length : Int) = (ys.length : Int))) = true := by simp; omega
theorem len_eq {α β : Type} {xs : List α} {ys : List β} (h : xs.length = ys.length) : (!decide ((xs.length : Int) = (ys.length : Int))) = false := by simp; omega
open Classical in
theorem rints_ok {xs ys : List Int} (hn : xs.length ≤ 9223372036854775807) : ref18_ints_p xs ys = some (decide (xs = ys)) := by
  unfold ref18_ints_p
  by_cases hl : xs.length = ys.length
  · rw [len_eq hl, if_neg (by simp), weq (r := false) hl]
    · by_cases e : xs = ys <;> simp [e]
    · intro i x y hx hy
      have hi := (List.getElem?_eq_some_iff.1 hx).1
      rw [if_pos (lt_len hx)]
      simp only [idx_nat, hx, hy, Option.bind_some, wrap_succ hi hn]
      by_cases e : x = y <;> simp [e]
    · rw [if_neg (not_lt_len _)]
  · rw [if_pos (len_ne hl), decide_eq_false fun e : xs = ys => hl (by rw [e])]
open Classical in
theorem rsameE_ok : ∀ (fu : Nat) (a b : GExpr), SizeOf.sizeOf a < fu → WFE a → ref18_sameExpr_p fu a b = some (decide (a = b))
  | 0, a, b, h, _ => absurd h (Nat.not_lt_zero _)
  | fu + 1, ⟨op, N, ks⟩, ⟨op', N', ks'⟩, h, hw => by
    rw [ref18_sameExpr_p]
    have hwk := hw.kids
    simp only at hwk ⊢
    by_cases h1 : op = op'
    rotate_left
    · rw [if_pos (by simp [h1]), decide_eq_false (by simp [h1])]
    by_cases h2 : N = N'
    rotate_left
    · rw [if_pos (by simp [h2]), decide_eq_false (by simp [h2])]
    by_cases h3 : ks.length = ks'.length
    rotate_left
    · rw [if_pos (by rw [len_ne h3]; simp), decide_eq_false (by intro e; cases e; exact h3 rfl)]
    rw [if_neg (by rw [len_eq h3]; simp [h1, h2]), weq (r := false) h3]
    · by_cases e : ks = ks' <;> simp [h1, h2, e]
    · intro i x y hx hy
      have hi := (List.getElem?_eq_some_iff.1 hx).1
      have hm := List.mem_of_getElem? hx
      have hz := kid_size (e := ⟨op, N, ks⟩) hm
      rw [if_pos (lt_len hx)]
      simp only [idx_nat, hx, hy, Option.bind_some, wrap_succ hi hwk.1]
      rw [rsameE_ok fu x y (by omega) (hwk.2 x hm)]
      by_cases e : x = y <;> simp [e]
    · rw [if_neg (not_lt_len _)]
section
variable {fu : Nat}
open Classical in
theorem rsameT_ok {a b : GTest} (h1 : SizeOf.sizeOf a.A < fu) (h2 : SizeOf.sizeOf a.B < fu) (w1 : WFE a.A) (w2 : WFE a.B) : ref18_sameTest_p fu a b = some (decide (a = b)) := by
  unfold ref18_sameTest_p
  rw [rsameE_ok fu _ _ h1 w1, rsameE_ok fu _ _ h2 w2]
  obtain ⟨o, p, q⟩ := a
  obtain ⟨o', p', q'⟩ := b
  by_cases h1 : o = o'
  · by_cases h2 : p = p'
    · by_cases h3 : q = q' <;> simp [h1, h2, h3]
    · simp [h1, h2]
  · simp [h1]
open Classical in
theorem rsameC_ok {a b : Cond} (hl : LenC a) (hs : SizeOf.sizeOf a ≤ fu) : ref18_SameCond_p fu a b = some (decide (a = b)) := by
  unfold ref18_SameCond_p
  rw [rints_ok hl.p, rints_ok hl.n]
  by_cases h1 : a.Pos = b.Pos
  rotate_left
  · rw [decide_eq_false (fun e : a = b => h1 (by rw [e]))]; simp [h1]
  by_cases h2 : a.Neg = b.Neg
  rotate_left
  · rw [decide_eq_false (fun e : a = b => h2 (by rw [e]))]; simp [h1, h2]
  simp only [h1, h2, decide_true, Option.bind_some, Bool.not_true, Bool.false_eq_true, if_false]
  by_cases h3 : a.Tests.length = b.Tests.length
  rotate_left
  · rw [len_ne h3, decide_eq_false (fun e : a = b => h3 (by rw [e]))]; simp
  rw [len_eq h3, if_neg (by simp), weq (r := false) h3]
  · obtain ⟨p, n, t⟩ := a
    obtain ⟨p', n', t'⟩ := b
    simp only at h1 h2
    subst h1 h2
    by_cases e : t = t' <;> simp [e]
  · intro i x y hx hy
    have hi := (List.getElem?_eq_some_iff.1 hx).1
    have hm := List.mem_of_getElem? hx
    have hz := test_size hm
    rw [if_pos (lt_len hx)]
    simp only [idx_nat, hx, hy, Option.bind_some, wrap_succ hi hl.t]
    rw [rsameT_ok (by omega) (by omega) (hl.e x hm).1 (hl.e x hm).2]
    by_cases e : x = y <;> simp [e]
  · rw [if_neg (not_lt_len _)]
open Classical in
theorem rsameO_ok {a b : GOp} (hl : LenO a) (hs : SizeOf.sizeOf a ≤ fu) : ref18_SameOp_p fu a b = some (decide (Alike a b)) := by
  have hp := pre_size a
  unfold ref18_SameOp_p
  rw [rsameC_ok hl.pre (by omega)]
  by_cases h1 : a.Pre = b.Pre
  rotate_left
  · rw [decide_eq_false (fun e : Alike a b => h1 e.1)]; simp [h1]
  by_cases h2 : a.Changes.length = b.Changes.length
  rotate_left
  · rw [len_ne h2, decide_eq_false (fun e : Alike a b => h2 (by rw [e.2.1]))]; simp [h1]
  by_cases h3 : a.Assigns.length = b.Assigns.length
  rotate_left
  · rw [len_ne h3, decide_eq_false (fun e : Alike a b => h3 (by rw [e.2.2]))]; simp [h1, len_eq h2]
  rw [len_eq h2, len_eq h3]
  simp only [h1, decide_true, Option.bind_some, Bool.not_true, Bool.false_eq_true, if_false]
  rw [weq (r := false) h2]
  rotate_left
  · intro i x y hx hy
    have hi := (List.getElem?_eq_some_iff.1 hx).1
    have hm := List.mem_of_getElem? hx
    have hz := when_size hm
    rw [if_pos (lt_len hx)]
    simp only [idx_nat, hx, hy, Option.bind_some, wrap_succ hi hl.ch]
    rw [rsameC_ok (hl.whn x hm) (by omega)]
    obtain ⟨w, a, d⟩ := x
    obtain ⟨w', a', d'⟩ := y
    by_cases e1 : a = a'
    · by_cases e2 : d = d'
      · by_cases e3 : w = w' <;> simp [e1, e2, e3]
      · simp [e1, e2]
    · simp [e1]
  · rw [if_neg (not_lt_len _)]
  by_cases h4 : a.Changes = b.Changes
  rotate_left
  · rw [if_neg h4, decide_eq_false (fun e : Alike a b => h4 e.2.1)]
  rw [if_pos h4, weq (r := false) h3]
  · by_cases h5 : a.Assigns = b.Assigns
    · rw [if_pos h5, decide_eq_true (show Alike a b from ⟨h1, h4, h5⟩)]
    · rw [if_neg h5, decide_eq_false (fun e : Alike a b => h5 e.2.2)]
  · intro i x y hx hy
    have hi := (List.getElem?_eq_some_iff.1 hx).1
    have hm := List.mem_of_getElem? hx
    have hz := value_size hm
    rw [if_pos (lt_len hx)]
    simp only [idx_nat, hx, hy, Option.bind_some, wrap_succ hi hl.as]
    rw [rsameE_ok fu x.Value y.Value (by omega) (hl.val x hm)]
    obtain ⟨f, v⟩ := x
    obtain ⟨f', v'⟩ := y
    by_cases e1 : f = f'
    · by_cases e2 : v = v' <;> simp [e1, e2]
    · simp [e1]
  · rw [if_neg (not_lt_len _)]
end
end Go.Pw
/-
  The reference's simplified task, in plain Lean.
-/
set_option maxHeartbeats 8000000
namespace Go.Pw
theorem wfe_map (f : Int → Int) {e : GExpr} (h : WFE e) : WFE (mapE f e) := by
  induction h with
  | mk hl hk ih =>
    rw [mapE, mapEs_eq]
    refine .mk (by simpa using hl) fun k hk' => ?_
    obtain ⟨x, hx, rfl⟩ := List.mem_map.1 hk'
    exact ih x hx
theorem lenC_map {a f : Int → Int} {c : Cond} (h : LenC c) : LenC (mapC a f c) := by
  refine ⟨by simpa [mapC] using h.p, by simpa [mapC] using h.n, by simpa [mapC] using h.t, fun t ht => ?_⟩
  obtain ⟨x, hx, rfl⟩ := List.mem_map.1 ht
  exact ⟨wfe_map f (h.e x hx).1, wfe_map f (h.e x hx).2⟩
theorem lenO_map {a f : Int → Int} {o : GOp} (h : LenO o) : LenO (mapO a f o) := by
  refine ⟨h.nm, lenC_map h.pre, ?_, fun c hc => ?_, by simpa [mapO] using h.as, fun x hx => ?_⟩
  · have := List.length_filter_le (fun c : GChange => decide (0 ≤ a c.Atom)) o.Changes
    have := h.ch
    simp only [mapO, List.length_map]
    omega
  · obtain ⟨x, hx, rfl⟩ := List.mem_map.1 hc
    exact lenC_map (h.whn x (List.mem_filter.1 hx).1)
  · obtain ⟨y, hy, rfl⟩ := List.mem_map.1 hx
    exact wfe_map f (h.val y hy)
theorem keepTo_mem {α : Type} {S : List Bool} {xs : List α} {j : Nat} {x : α} (h : x ∈ keepTo S xs j) : x ∈ xs := by
  unfold keepTo at h
  obtain ⟨i, _, hi⟩ := List.mem_filterMap.1 h
  by_cases hs : S[i]? = some true
  · rw [if_pos hs] at hi; exact List.mem_of_getElem? hi
  · rw [if_neg hs] at hi; cases hi
section
variable {fu : Nat} {g : Ground} {A F : List Bool}
end
end Go.Pw
/-
  A task is the same as itself; SimplifyTasks, in plain Lean.
-/
set_option maxHeartbeats 8000000
namespace Go.Pw
theorem lenG_simp {g : Ground} {A F : List Bool} (hl : LenG g) : LenG (simpG A F g) := by
  have h1 := keepTo_le A g.Atoms g.Atoms.length
  have h2 := keepTo_le F g.Fluents g.Fluents.length
  have h3 := List.length_filter_le (fun i => decide (0 ≤ at0 (numF A) i)) g.Init
  have h4 := keepTo_le (staL A F g) (mapL A F g) (mapL A F g).length
  have lM : (mapL A F g).length = g.Ops.length := by simp [mapL]
  refine ⟨Nat.le_trans h1 hl.a, Nat.le_trans h2 hl.f, ?_, ?_, ?_, fun c hc => ?_, fun o ho => ?_⟩
  · simp only [simpG, List.length_map]; have := hl.i; omega
  · simp only [simpG, List.length_map]; exact hl.gl
  · rw [lM] at h4
    have h5 := keepTo_len (staL A F g) (mapL A F g)
    rw [lM] at h5
    simp only [simpG]; rw [← h5]; have := hl.o; omega
  · obtain ⟨x, hx, rfl⟩ := List.mem_map.1 hc
    exact lenC_map (hl.goal x hx)
  · obtain ⟨i, _, hi⟩ := keep_mem.1 ho
    obtain ⟨x, hx, rfl⟩ := List.mem_map.1 (List.mem_of_getElem? hi)
    exact lenO_map (hl.op x hx)
theorem roomC_map {a f : Int → Int} {c : Cond} (h : RoomC c) : RoomC (mapC a f c) := by
  unfold RoomC at *
  simpa [mapC] using h
theorem roomO_map {a f : Int → Int} {o : GOp} (h : RoomO o) : RoomO (mapO a f o) := by
  refine ⟨roomC_map h.1, fun c hc => ?_⟩
  obtain ⟨x, hx, rfl⟩ := List.mem_map.1 hc
  exact roomC_map (h.2 x (List.mem_filter.1 hx).1)
theorem roomT_simp {g : Ground} {A F : List Bool} (hr : RoomT g) : RoomT (simpG A F g) := by
  refine ⟨⟨fun c hc => ?_, fun o ho => ?_⟩, fun x hx => hr.a x (keepTo_mem hx), fun x hx => hr.f x (keepTo_mem hx)⟩
  · obtain ⟨x, hx, rfl⟩ := List.mem_map.1 hc
    exact roomC_map (hr.c.1 x hx)
  · obtain ⟨x, hx, rfl⟩ := List.mem_map.1 (keepTo_mem ho)
    exact roomO_map (hr.c.2 x hx)
theorem compare_same {a : Atom} (h : a.Args.length * 16 ≤ 140737488355328) : ref10_Compare_p a a = some 0 := by
  unfold ref10_Compare_p
  rw [if_neg (by simp)]
  rw [while_run (s0 := (0 : Int)) (fun j => (j : Int)) a.Args.length (by simp)]
  rotate_left
  · intro j hj
    obtain ⟨x, hx⟩ := get_len hj
    rw [lt_len hx]
    simp only [Bool.and_self, if_true, idx_nat, hx, Option.bind_some]
    rw [sLt_irrefl, wrap_succ hj (by omega)]
    simp
  · rw [if_neg (by simp)]
  simp only [Int.sub_self]
  rfl
section
variable {fu : Nat}
open Classical in
theorem same_ok {h : Ground} (hl : LenG h) (hr : RoomT h) (hs : SizeOf.sizeOf h ≤ fu) : ref18_Same_p fu h h = some true := by
  unfold ref18_Same_p
  have atoms : ref10_SameAtoms_p h.Atoms h.Atoms = some true := by
    unfold ref10_SameAtoms_p
    rw [if_neg (by simp)]
    rw [ctl_whileP (xs := h.Atoms) (r := false) (fun _ => True)]
    · rw [if_pos (fun _ _ => trivial)]
    · intro i x hx
      have hi := (List.getElem?_eq_some_iff.1 hx).1
      rw [if_pos (lt_len hx)]
      simp only [idx_nat, hx, Option.bind_some, wrap_succ hi hl.a]
      rw [compare_same (hr.a x (List.mem_of_getElem? hx))]
      simp
    · rw [if_neg (not_lt_len _)]
  rw [atoms, rints_ok hl.i]
  simp only [Option.bind_some, decide_true, Bool.not_true, Bool.false_eq_true, if_false]
  rw [ctl_whileP (xs := h.Fluents) (r := false) (fun _ => True)]
  rotate_left
  · intro i x hx
    have hi := (List.getElem?_eq_some_iff.1 hx).1
    rw [if_pos (lt_len hx)]
    simp only [idx_nat, hx, Option.bind_some, wrap_succ hi hl.f]
    rw [compare_same (hr.f x (List.mem_of_getElem? hx))]
    simp
  · rw [if_neg (not_lt_len _)]
  rw [if_pos (fun _ _ => trivial), ctl_whileP (xs := h.Goal) (r := false) (fun _ => True)]
  rotate_left
  · intro i x hx
    have hi := (List.getElem?_eq_some_iff.1 hx).1
    have hm := List.mem_of_getElem? hx
    have hz := goal_size hm
    rw [if_pos (lt_len hx)]
    simp only [idx_nat, hx, Option.bind_some, wrap_succ hi hl.gl]
    rw [rsameC_ok (hl.goal x hm) (by omega)]
    simp
  · rw [if_neg (not_lt_len _)]
  rw [if_pos (fun _ _ => trivial), ctl_whileP (xs := h.Ops) (r := false) (fun _ => True)]
  rotate_left
  · intro i x hx
    have hi := (List.getElem?_eq_some_iff.1 hx).1
    have hm := List.mem_of_getElem? hx
    have hz := op_size hm
    rw [if_pos (lt_len hx)]
    simp only [idx_nat, hx, Option.bind_some, wrap_succ hi hl.o]
    rw [rsameO_ok (hl.op x hm) (by omega)]
    simp [Alike]
  · rw [if_neg (not_lt_len _)]
  rw [if_pos (fun _ _ => trivial)]
/-- Fuel for all that is made of a task. -/
noncomputable def fuelOf (A F : List Bool) (g : Ground) : Nat := SizeOf.sizeOf g + SizeOf.sizeOf (mapL A F g) + SizeOf.sizeOf (simpG A F g)
theorem fuel_map {A F : List Bool} {g : Ground} : ∀ x ∈ mapL A F g, SizeOf.sizeOf x ≤ fuelOf A F g := fun x hx => by
  have := List.sizeOf_lt_of_mem hx
  unfold fuelOf; omega
end
end Go.Pw
/-
  What is known of data read in, with its room.
-/
set_option maxHeartbeats 4000000
namespace Go.Pw
abbrev WfCW (c : Cond) : Prop := (c.Pos.length ≤ maxLen ∧ c.Pos.length * 8 ≤ 140737488351232 ∧ ∀ y ∈ c.Pos, (Lit.int .i64 y).wf = true) ∧ (c.Neg.length ≤ maxLen ∧ c.Neg.length * 8 ≤ 140737488351232 ∧ ∀ y ∈ c.Neg, (Lit.int .i64 y).wf = true) ∧ (c.Tests.length ≤ maxLen ∧ c.Tests.length * 112 ≤ 140737488351232 ∧ ∀ t ∈ c.Tests, (t.Op.size ≤ maxLen) ∧ WFE t.A ∧ WFE t.B)
theorem lenC_ofW {c : Cond} (h : WfCW c) : LenC c := ⟨h.1.1, h.2.1.1, h.2.2.1, fun t ht => (h.2.2.2.2 t ht).2⟩
theorem roomC_ofW {c : Cond} (h : WfCW c) : RoomC c := by unfold RoomC; have := h.2.2.2.1; omega
theorem lenG_ofW {g : Ground} {A F I G1 O1 : Prop} {P C1 S1 : GOp → Prop} {Q : GChange → Prop} {R : GAssign → Prop} (h : (g.Atoms.length ≤ maxLen ∧ A) ∧ (g.Fluents.length ≤ maxLen ∧ F) ∧ (g.Init.length ≤ maxLen ∧ I) ∧ (g.Goal.length ≤ maxLen ∧ G1 ∧ ∀ c ∈ g.Goal, WfCW c) ∧
    (g.Ops.length ≤ maxLen ∧ O1 ∧ ∀ o ∈ g.Ops, (o.Name.size ≤ maxLen) ∧ P o ∧ WfCW o.Pre ∧ (o.Changes.length ≤ maxLen ∧ C1 o ∧ ∀ c ∈ o.Changes, WfCW c.When ∧ Q c) ∧ (o.Assigns.length ≤ maxLen ∧ S1 o ∧ ∀ a ∈ o.Assigns, R a ∧ WFE a.Value))) : LenG g :=
  ⟨h.1.1, h.2.1.1, h.2.2.1.1, h.2.2.2.1.1, h.2.2.2.2.1, fun c hc => lenC_ofW (h.2.2.2.1.2.2 c hc), fun o ho =>
    let k := h.2.2.2.2.2.2 o ho
    ⟨k.1, lenC_ofW k.2.2.1, k.2.2.2.1.1, fun c hc => lenC_ofW (k.2.2.2.1.2.2 c hc).1, k.2.2.2.2.1, fun a ha => (k.2.2.2.2.2.2 a ha).2⟩⟩
theorem roomT_ofW {g : Ground} {A0 A1 F0 F1 I G0 G1 O0 O1 : Prop} {A2 A3 A4 : Atom → Prop} {F2 F3 F4 F5 : GFluent → Prop} {N P C0 C1 S1 : GOp → Prop} {Q : GChange → Prop} (h : (A0 ∧ A1 ∧ ∀ x ∈ g.Atoms, A2 x ∧ (A3 x ∧ x.Args.length * 16 ≤ 140737488351232 ∧ A4 x)) ∧
    (F0 ∧ F1 ∧ ∀ x ∈ g.Fluents, (F2 x ∧ (F3 x ∧ x.Fluent.Args.length * 16 ≤ 140737488351232 ∧ F4 x)) ∧ F5 x) ∧ I ∧ (G0 ∧ G1 ∧ ∀ c ∈ g.Goal, WfCW c) ∧
    (O0 ∧ O1 ∧ ∀ o ∈ g.Ops, N o ∧ P o ∧ WfCW o.Pre ∧ (C0 o ∧ C1 o ∧ ∀ c ∈ o.Changes, WfCW c.When ∧ Q c) ∧ S1 o)) : RoomT g :=
  ⟨⟨fun c hc => roomC_ofW (h.2.2.2.1.2.2 c hc), fun o ho => ⟨roomC_ofW (h.2.2.2.2.2.2 o ho).2.2.1, fun c hc => roomC_ofW ((h.2.2.2.2.2.2 o ho).2.2.2.1.2.2 c hc).1⟩⟩,
    fun x hx => by have := (h.1.2.2 x hx).2.2.1; omega, fun x hx => by have := (h.2.1.2.2 x hx).1.2.2.1; omega⟩
end Go.Pw
