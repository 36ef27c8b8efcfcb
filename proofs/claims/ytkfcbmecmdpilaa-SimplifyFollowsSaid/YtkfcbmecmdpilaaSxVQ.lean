/-
  The reference's maps, numbers and comparisons, in plain Lean.
-/
import Derived.Test.YtkfcbmecmdpilaaSxVM
set_option maxHeartbeats 8000000
set_option linter.unusedSimpArgs false
set_option linter.unusedVariables false
namespace Go.Pw
/-- A loop whose states are known. -/
theorem while_run {S R β : Type} {B : S → Option (Ctl S R)} {kr : R → Option β} {k : S → Option β} {s0 : S} (st : Nat → S) (n : Nat) (h0 : st 0 = s0) (h : ∀ j, j < n → B (st j) = some (.next (st (j + 1)))) (hb : B (st n) = some (.brk (st n))) :
    ctl (whileC B s0) kr k = k (st n) := by
  have key : ∀ m j : Nat, j + m = n → whileC B (st j) = some (.brk (st n)) := by
    intro m
    induction m with
    | zero => intro j hj; obtain rfl : j = n := by omega
              exact whileC_stop hb (by intro s e; cases e)
    | succ m ih =>
      intro j hj
      rw [whileC_next (h j (by omega))]
      exact ih (j + 1) (by omega)
  rw [← h0]
  unfold ctl
  rw [key n 0 (by omega)]
  rfl
theorem lt_len {α : Type} {xs : List α} {i : Nat} {x : α} (h : xs[i]? = some x) : decide ((i : Int) < (xs.length : Int)) = true := decide_eq_true (by have := (List.getElem?_eq_some_iff.1 h).1; omega)
theorem not_lt_len {α : Type} (xs : List α) : ¬ decide ((xs.length : Int) < (xs.length : Int)) = true := by simp
/-! ### maps -/
section
variable {fu : Nat} {A F O : List Int}
end
/-! ### numbers -/
open Classical in
theorem in_ok {l : List Int} {n : Int} (hl : l.length ≤ 9223372036854775807) : ref18_In_p l n = some (decide (n ∈ l)) := by
  unfold ref18_In_p
  rw [ctl_whileP (xs := l) (r := true) (fun x => x ≠ n)]
  · by_cases h : n ∈ l
    · rw [if_neg (fun q => q n h rfl), decide_eq_true h]
    · rw [if_pos (fun x hx e => h (by rw [← e]; exact hx)), decide_eq_false h]
  · intro i x hx
    have hi := (List.getElem?_eq_some_iff.1 hx).1
    rw [if_pos (lt_len hx)]
    simp only [idx_nat, hx, Option.bind_some, wrap_succ hi hl]
    by_cases e : x = n <;> simp [e]
  · rw [if_neg (not_lt_len _)]
/-! ### comparisons -/
open Classical in
theorem weq {α R β : Type} {xs ys : List α} {B : Int → Option (Ctl Int R)} {r : R} {kr : R → Option β} {k : Int → Option β} (hl : xs.length = ys.length)
    (h : ∀ (i : Nat) x y, xs[i]? = some x → ys[i]? = some y → B (i : Int) = some (if decide (x = y) then .next ((i + 1 : Nat) : Int) else .ret r)) (hb : B (xs.length : Int) = some (.brk (xs.length : Int))) :
    ctl (whileC B 0) kr k = if xs = ys then k (xs.length : Int) else kr r := by
  rw [while_all (r := r) (n := xs.length) (p := fun i => decide (xs[i]? = ys[i]?))]
  · by_cases he : xs = ys
    · subst he
      rw [if_pos rfl, if_pos (by simp)]
    · rw [if_neg he, if_neg]
      intro hall
      apply he
      apply List.ext_getElem?
      intro i
      by_cases hi : i < xs.length
      · exact of_decide_eq_true (List.all_eq_true.1 hall i (List.mem_range.2 hi))
      · rw [List.getElem?_eq_none (by omega), List.getElem?_eq_none (by omega)]
  · intro i hi
    obtain ⟨x, hx⟩ := get_len hi
    obtain ⟨y, hy⟩ := get_len (xs := ys) (i := i) (by omega)
    rw [h i x y hx hy]
    congr 1
    simp only [hx, hy, Option.some.injEq]
  · exact hb
theorem len_ne {α β : Type} {xs : List α} {ys : List β} (h : xs.length ≠ ys.length) : (!decide ((xs.length : Int) = (ys.length : Int))) = true := by simp; omega
theorem len_eq {α β : Type} {xs : List α} {ys : List β} (h : xs.length = ys.length) : (!decide ((xs.length : Int) = (ys.length : Int))) = false := by simp; omega
open Classical in
theorem rints_ok {xs ys : List Int} (hn : xs.length ≤ 9223372036854775807) : ref18_ints_p xs ys = some (decide (xs = ys)) := by
  unfold ref18_ints_p
  by_cases hl : xs.length = ys.length
  · rw [len_eq hl, if_neg (by simp), weq (r := false) hl]
    · by_cases e : xs = ys <;> simp [e]
    · intro i x y hx hy
      have hi := (List.getElem?_eq_some_iff.1 hx).1
      rw [if_pos (lt_len hx)]
      simp only [idx_nat, hx, hy, Option.bind_some, wrap_succ hi hn]
      by_cases e : x = y <;> simp [e]
    · rw [if_neg (not_lt_len _)]
  · rw [if_pos (len_ne hl), decide_eq_false fun e : xs = ys => hl (by rw [e])]
section
variable {fu : Nat}
end
end Go.Pw
/-
  The reference's simplified task, in plain Lean.
-/
set_option maxHeartbeats 8000000
namespace Go.Pw
theorem wfe_map (f : Int → Int) {e : GExpr} (h : WFE e) : WFE (mapE f e) := by
  induction h with
  | mk hl hk ih =>
    rw [mapE, mapEs_eq]
    refine .mk (by simpa using hl) fun k hk' => ?_
    obtain ⟨x, hx, rfl⟩ := List.mem_map.1 hk'
    exact ih x hx
theorem lenC_map {a f : Int → Int} {c : Cond} (h : LenC c) : LenC (mapC a f c) := by
  refine ⟨by simpa [mapC] using h.p, by simpa [mapC] using h.n, by simpa [mapC] using h.t, fun t ht => ?_⟩
  obtain ⟨x, hx, rfl⟩ := List.mem_map.1 ht
  exact ⟨wfe_map f (h.e x hx).1, wfe_map f (h.e x hx).2⟩
theorem lenO_map {a f : Int → Int} {o : GOp} (h : LenO o) : LenO (mapO a f o) := by
  refine ⟨h.nm, lenC_map h.pre, ?_, fun c hc => ?_, by simpa [mapO] using h.as, fun x hx => ?_⟩
  · have := List.length_filter_le (fun c : GChange => decide (0 ≤ a c.Atom)) o.Changes
    have := h.ch
    simp only [mapO, List.length_map]
    omega
  · obtain ⟨x, hx, rfl⟩ := List.mem_map.1 hc
    exact lenC_map (h.whn x (List.mem_filter.1 hx).1)
  · obtain ⟨y, hy, rfl⟩ := List.mem_map.1 hx
    exact wfe_map f (h.val y hy)
theorem keepTo_mem {α : Type} {S : List Bool} {xs : List α} {j : Nat} {x : α} (h : x ∈ keepTo S xs j) : x ∈ xs := by
  unfold keepTo at h
  obtain ⟨i, _, hi⟩ := List.mem_filterMap.1 h
  by_cases hs : S[i]? = some true
  · rw [if_pos hs] at hi; exact List.mem_of_getElem? hi
  · rw [if_neg hs] at hi; cases hi
theorem Asc.pw {l : List Int} {n : Int} (h : Asc l n) : l.Pairwise (· < ·) := by
  have key : ∀ (d i : Nat) (x y : Int), l[i]? = some x → l[i + d + 1]? = some y → x < y := by
    intro d
    induction d with
    | zero => intro i x y hx hy; exact (h (i + 1) y hy).2.2 x (by omega) hx
    | succ d ih =>
      intro i x y hx hy
      obtain ⟨z, hz⟩ := get_len (xs := l) (i := i + d + 1) (by have := (List.getElem?_eq_some_iff.1 hy).1; omega)
      have h1 := ih i x z hx hz
      have h2 := (h (i + (d + 1) + 1) y hy).2.2 z (by omega) hz
      omega
  refine List.pairwise_iff_getElem.2 fun i j hi hj hij => ?_
  obtain ⟨d, rfl⟩ : ∃ d, j = i + d + 1 := ⟨j - i - 1, by omega⟩
  exact key d i _ _ (List.getElem?_eq_getElem hi) (List.getElem?_eq_getElem hj)
open Classical in
theorem filter_step : ∀ {l : List Int}, l.Pairwise (· < ·) → ∀ j : Int, l.filter (fun x => decide (x < j + 1)) = l.filter (fun x => decide (x < j)) ++ if j ∈ l then [j] else []
  | [], _, j => by simp
  | x :: xs, h, j => by
    obtain ⟨h1, h2⟩ := List.pairwise_cons.1 h
    have ih := filter_step h2 j
    rcases Int.lt_trichotomy x j with a | a | a
    · rw [List.filter_cons_of_pos (by simp; omega), List.filter_cons_of_pos (by simp; omega), ih]
      have : (j ∈ x :: xs) ↔ j ∈ xs := by simp; omega
      simp only [this, List.cons_append]
    · subst a
      have e1 : xs.filter (fun y => decide (y < x + 1)) = [] := by
        rw [List.filter_eq_nil_iff]; intro y hy; have := h1 y hy; simp; omega
      have e2 : xs.filter (fun y => decide (y < x)) = [] := by
        rw [List.filter_eq_nil_iff]; intro y hy; have := h1 y hy; simp; omega
      rw [List.filter_cons_of_pos (by simp; omega), List.filter_cons_of_neg (by simp), e1, e2]
      simp
    · have e1 : xs.filter (fun y => decide (y < j + 1)) = [] := by
        rw [List.filter_eq_nil_iff]; intro y hy; have := h1 y hy; simp; omega
      have e2 : xs.filter (fun y => decide (y < j)) = [] := by
        rw [List.filter_eq_nil_iff]; intro y hy; have := h1 y hy; simp; omega
      rw [List.filter_cons_of_neg (by simp; omega), List.filter_cons_of_neg (by simp; omega), e1, e2]
      have : ¬ j ∈ x :: xs := by
        simp only [List.mem_cons]
        rintro (e | e)
        · omega
        · have := h1 j e; omega
      simp [this]
/-- The new numbers of the true atoms below j. -/
noncomputable def initTo (A : List Bool) (I : List Int) (j : Nat) : List Int := ((I.filter fun x => decide (x < (j : Int))).filter fun i => decide (0 ≤ at0 (numF A) i)).map (at0 (numF A))
theorem initTo_le (A : List Bool) (I : List Int) (j : Nat) : (initTo A I j).length ≤ I.length := by
  unfold initTo
  rw [List.length_map]
  exact Nat.le_trans (List.length_filter_le _ _) (List.length_filter_le _ _)
open Classical in
theorem initTo_succ {A : List Bool} {I : List Int} {n : Int} (h : Asc I n) (j : Nat) : initTo A I (j + 1) = initTo A I j ++ if (j : Int) ∈ I ∧ 0 ≤ at0 (numF A) (j : Int) then [at0 (numF A) (j : Int)] else [] := by
  unfold initTo
  have := filter_step h.pw (j : Int)
  rw [show ((j + 1 : Nat) : Int) = (j : Int) + 1 by omega, this, List.filter_append, List.map_append]
  congr 1
  by_cases h1 : (j : Int) ∈ I
  · by_cases h2 : 0 ≤ at0 (numF A) (j : Int)
    · simp [h1, h2]
    · simp [h1, h2]
  · simp [h1]
section
variable {fu : Nat} {g : Ground} {A F : List Bool}
end
end Go.Pw
/-
  A task is the same as itself; SimplifyTasks, in plain Lean.
-/
set_option maxHeartbeats 8000000
namespace Go.Pw
theorem lenG_simp {g : Ground} {A F : List Bool} (hl : LenG g) : LenG (simpG A F g) := by
  have h1 := keepTo_le A g.Atoms g.Atoms.length
  have h2 := keepTo_le F g.Fluents g.Fluents.length
  have h3 := List.length_filter_le (fun i => decide (0 ≤ at0 (numF A) i)) g.Init
  have h4 := keepTo_le (staL A F g) (mapL A F g) (mapL A F g).length
  have lM : (mapL A F g).length = g.Ops.length := by simp [mapL]
  refine ⟨Nat.le_trans h1 hl.a, Nat.le_trans h2 hl.f, ?_, ?_, ?_, fun c hc => ?_, fun o ho => ?_⟩
  · simp only [simpG, List.length_map]; have := hl.i; omega
  · simp only [simpG, List.length_map]; exact hl.gl
  · rw [lM] at h4
    have h5 := keepTo_len (staL A F g) (mapL A F g)
    rw [lM] at h5
    simp only [simpG]; rw [← h5]; have := hl.o; omega
  · obtain ⟨x, hx, rfl⟩ := List.mem_map.1 hc
    exact lenC_map (hl.goal x hx)
  · obtain ⟨i, _, hi⟩ := keep_mem.1 ho
    obtain ⟨x, hx, rfl⟩ := List.mem_map.1 (List.mem_of_getElem? hi)
    exact lenO_map (hl.op x hx)
section
variable {fu : Nat}
theorem simplify_no {g : Ground} (hv : ¬ ValidG g) (hl : LenG g) (hs : SizeOf.sizeOf g ≤ fu) : simplify_Simplify_p fu g = some (some 2, ⟨[], [], [], [], []⟩, ⟨[], [], []⟩) := by
  unfold simplify_Simplify_p
  rw [valid_ok hl hs]
  simp [hv]
/-- Fuel for all that is made of a task. -/
noncomputable def fuelOf (A F : List Bool) (g : Ground) : Nat := SizeOf.sizeOf g + SizeOf.sizeOf (mapL A F g) + SizeOf.sizeOf (simpG A F g)
theorem fuel_map {A F : List Bool} {g : Ground} : ∀ x ∈ mapL A F g, SizeOf.sizeOf x ≤ fuelOf A F g := fun x hx => by
  have := List.sizeOf_lt_of_mem hx
  unfold fuelOf; omega
end
end Go.Pw
/-
  What is known of data read in, with its room.
-/
set_option maxHeartbeats 4000000
namespace Go.Pw
abbrev WfCW (c : Cond) : Prop := (c.Pos.length ≤ maxLen ∧ c.Pos.length * 8 ≤ 140737488351232 ∧ ∀ y ∈ c.Pos, (Lit.int .i64 y).wf = true) ∧ (c.Neg.length ≤ maxLen ∧ c.Neg.length * 8 ≤ 140737488351232 ∧ ∀ y ∈ c.Neg, (Lit.int .i64 y).wf = true) ∧ (c.Tests.length ≤ maxLen ∧ c.Tests.length * 112 ≤ 140737488351232 ∧ ∀ t ∈ c.Tests, (t.Op.size ≤ maxLen) ∧ WFE t.A ∧ WFE t.B)
theorem lenC_ofW {c : Cond} (h : WfCW c) : LenC c := ⟨h.1.1, h.2.1.1, h.2.2.1, fun t ht => (h.2.2.2.2 t ht).2⟩
theorem roomC_ofW {c : Cond} (h : WfCW c) : RoomC c := by unfold RoomC; have := h.2.2.2.1; omega
theorem lenG_ofW {g : Ground} {A F I G1 O1 : Prop} {P C1 S1 : GOp → Prop} {Q : GChange → Prop} {R : GAssign → Prop} (h : (g.Atoms.length ≤ maxLen ∧ A) ∧ (g.Fluents.length ≤ maxLen ∧ F) ∧ (g.Init.length ≤ maxLen ∧ I) ∧ (g.Goal.length ≤ maxLen ∧ G1 ∧ ∀ c ∈ g.Goal, WfCW c) ∧
    (g.Ops.length ≤ maxLen ∧ O1 ∧ ∀ o ∈ g.Ops, (o.Name.size ≤ maxLen) ∧ P o ∧ WfCW o.Pre ∧ (o.Changes.length ≤ maxLen ∧ C1 o ∧ ∀ c ∈ o.Changes, WfCW c.When ∧ Q c) ∧ (o.Assigns.length ≤ maxLen ∧ S1 o ∧ ∀ a ∈ o.Assigns, R a ∧ WFE a.Value))) : LenG g :=
  ⟨h.1.1, h.2.1.1, h.2.2.1.1, h.2.2.2.1.1, h.2.2.2.2.1, fun c hc => lenC_ofW (h.2.2.2.1.2.2 c hc), fun o ho =>
    let k := h.2.2.2.2.2.2 o ho
    ⟨k.1, lenC_ofW k.2.2.1, k.2.2.2.1.1, fun c hc => lenC_ofW (k.2.2.2.1.2.2 c hc).1, k.2.2.2.2.1, fun a ha => (k.2.2.2.2.2.2 a ha).2⟩⟩
theorem roomT_ofW {g : Ground} {A0 A1 F0 F1 I G0 G1 O0 O1 : Prop} {A2 A3 A4 : Atom → Prop} {F2 F3 F4 F5 : GFluent → Prop} {N P C0 C1 S1 : GOp → Prop} {Q : GChange → Prop} (h : (A0 ∧ A1 ∧ ∀ x ∈ g.Atoms, A2 x ∧ (A3 x ∧ x.Args.length * 16 ≤ 140737488351232 ∧ A4 x)) ∧
    (F0 ∧ F1 ∧ ∀ x ∈ g.Fluents, (F2 x ∧ (F3 x ∧ x.Fluent.Args.length * 16 ≤ 140737488351232 ∧ F4 x)) ∧ F5 x) ∧ I ∧ (G0 ∧ G1 ∧ ∀ c ∈ g.Goal, WfCW c) ∧
    (O0 ∧ O1 ∧ ∀ o ∈ g.Ops, N o ∧ P o ∧ WfCW o.Pre ∧ (C0 o ∧ C1 o ∧ ∀ c ∈ o.Changes, WfCW c.When ∧ Q c) ∧ S1 o)) : RoomT g :=
  ⟨⟨fun c hc => roomC_ofW (h.2.2.2.1.2.2 c hc), fun o ho => ⟨roomC_ofW (h.2.2.2.2.2.2 o ho).2.2.1, fun c hc => roomC_ofW ((h.2.2.2.2.2.2 o ho).2.2.2.1.2.2 c hc).1⟩⟩,
    fun x hx => by have := (h.1.2.2 x hx).2.2.1; omega, fun x hx => by have := (h.2.1.2.2 x hx).1.2.2.1; omega⟩
end Go.Pw
