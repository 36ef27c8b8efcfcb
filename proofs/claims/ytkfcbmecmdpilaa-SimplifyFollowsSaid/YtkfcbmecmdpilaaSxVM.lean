/-
  Tasks with new numbers, in plain Lean: expressions, conditions, operators.
-/
import Derived.Test.YtkfcbmecmdpilaaSxVI
set_option maxHeartbeats 8000000
set_option linter.unusedSimpArgs false
set_option linter.unusedVariables false
namespace Go.Pw
mutual
def mapE (f : Int → Int) : GExpr → GExpr
  | ⟨op, N, ks⟩ => ⟨op, if op = sFlu then f N else N, mapEs f ks⟩
def mapEs (f : Int → Int) : List GExpr → List GExpr
  | [] => []
  | k :: ks => mapE f k :: mapEs f ks
end
theorem mapEs_eq (f : Int → Int) : ∀ ks, mapEs f ks = ks.map (mapE f)
  | [] => rfl
  | k :: ks => by rw [mapEs, mapEs_eq f ks]; rfl
def mapT (f : Int → Int) (t : GTest) : GTest := ⟨t.Op, mapE f t.A, mapE f t.B⟩
def mapC (a f : Int → Int) (c : Cond) : Cond := ⟨c.Pos.map a, c.Neg.map a, c.Tests.map (mapT f)⟩
def mapH (a f : Int → Int) (c : GChange) : GChange := ⟨mapC a f c.When, a c.Atom, c.Add⟩
def mapG (f : Int → Int) (x : GAssign) : GAssign := ⟨f x.Fluent, mapE f x.Value⟩
def mapO (a f : Int → Int) (o : GOp) : GOp := ⟨o.Name, o.Cost, mapC a f o.Pre, (o.Changes.filter fun c => decide (0 ≤ a c.Atom)).map (mapH a f), o.Assigns.map (mapG f)⟩
theorem along_ok {l to : List Int} (hl : ∀ x ∈ l, 0 ≤ x ∧ x < (to.length : Int)) (hr : l.length * 8 ≤ 140737488355328) : simplify_along_p l to = some (l.map (at0 to)) := by
  apply Ok.eq
  unfold simplify_along_p
  refine Ok.bind (Ok.forS (fun j (q : List Int) => q = (l.take j).map (at0 to)) (by simp) ?_ ?_)
  · rintro j q hj rfl
    obtain ⟨x, hx⟩ := get_len hj
    have := hl x (List.mem_of_getElem? hx)
    have hle := List.length_take_le j l
    simp only [idx_nat, hx, Option.bind_some, idx_at this.1 this.2]
    rw [app_ok (by simp; omega)]
    refine Ok.ret ?_
    rw [take_snoc hx, List.map_append]; rfl
  · rintro q rfl
    rw [List.take_length]
    exact Ok.ret rfl
theorem RE.kids {n : Int} {e : GExpr} (h : RE n e) : e.Kids.length ≤ 2 ∧ (∀ k ∈ e.Kids, RE n k) ∧ (e.Op = sFlu → 0 ≤ e.N ∧ e.N < n) := by
  cases h with
  | num a b => exact ⟨by simp, by simp, fun h => by simp at h⟩
  | flu a b => exact ⟨by simp, by simp, fun _ => ⟨a, b⟩⟩
  | bin ho ha hb =>
    refine ⟨by simp, ?_, ?_⟩
    · intro k hk
      simp only [List.mem_cons, List.not_mem_nil, or_false] at hk
      rcases hk with rfl | rfl
      · exact ha
      · exact hb
    · intro h
      simp only at h
      subst h
      rcases ho with h | h | h <;> simp at h
theorem mapE_ok {to : List Int} {A O : List Int} : ∀ (fu : Nat) (e : GExpr), SizeOf.sizeOf e < fu → RE (to.length : Int) e → simplify_Map_expr_p fu ⟨A, to, O⟩ e = some (mapE (at0 to) e)
  | 0, e, h, _ => absurd h (Nat.not_lt_zero _)
  | fu + 1, e, h, hr => by
    obtain ⟨hk2, hk, hN⟩ := hr.kids
    apply Ok.eq
    rw [simplify_Map_expr_p]
    refine Ok.step (a := if e.Op = sFlu then at0 to e.N else e.N) ?_ ?_
    · by_cases he : e.Op = sFlu
      · have := hN he
        rw [if_pos (decide_eq_true he), if_pos he, idx_at this.1 this.2]; rfl
      · rw [if_neg (by simpa using he), if_neg he]
    refine Ok.bind (Ok.forS (fun j (q : List GExpr) => q = (e.Kids.take j).map (mapE (at0 to))) (by simp) ?_ ?_)
    · rintro j q hj rfl
      obtain ⟨k, hx⟩ := get_len hj
      have hm := List.mem_of_getElem? hx
      have hz := kid_size hm
      have hle := List.length_take_le j e.Kids
      simp only [idx_nat, hx, Option.bind_some]
      rw [mapE_ok fu k (by omega) (hk k hm)]
      simp only [Option.bind_some]
      rw [app_ok (by simp; omega)]
      refine Ok.ret ?_
      rw [take_snoc hx, List.map_append]; rfl
    · rintro q rfl
      rw [List.take_length]
      refine Ok.ret ?_
      cases e
      rw [mapE, mapEs_eq]
theorem Asc.len_le {l : List Int} {n : Nat} (h : Asc l (n : Int)) : l.length ≤ n := by
  have key : ∀ (i : Nat) (x : Int), l[i]? = some x → (i : Int) ≤ x := by
    intro i
    induction i with
    | zero => intro x hx; exact (h 0 x hx).1
    | succ i ih =>
      intro x hx
      obtain ⟨y, hy⟩ := get_len (xs := l) (i := i) (by have := (List.getElem?_eq_some_iff.1 hx).1; omega)
      have h1 := (h (i + 1) x hx).2.2 y (by omega) (by simpa using hy)
      have h2 := ih y hy
      omega
  by_cases h0 : l.length = 0
  · omega
  · obtain ⟨x, hx⟩ := get_len (xs := l) (i := l.length - 1) (by omega)
    have h1 := key _ _ hx
    have h2 := (h _ x hx).2.1
    omega
/-- Room for the tests of a condition, and for what is made of them. -/
def RoomC (c : Cond) : Prop := c.Tests.length * 112 ≤ 140737488355328
def RoomO (o : GOp) : Prop := RoomC o.Pre ∧ ∀ c ∈ o.Changes, RoomC c.When
def RoomG (g : Ground) : Prop := (∀ c ∈ g.Goal, RoomC c) ∧ ∀ o ∈ g.Ops, RoomO o
section
variable {fu : Nat} {A F O : List Int}
theorem mapC_ok {c : Cond} (hc : CondOK (A.length : Int) (F.length : Int) c) (hA : A.length ≤ 4096) (hr : RoomC c) (hs : SizeOf.sizeOf c ≤ fu) : simplify_Map_cond_p fu ⟨A, F, O⟩ c = some (mapC (at0 A) (at0 F) c) := by
  apply Ok.eq
  unfold simplify_Map_cond_p
  have l1 := hc.p.len_le
  have l2 := hc.n.len_le
  refine Ok.step (along_ok (fun x hx => hc.p.rng hx) (by omega)) ?_
  refine Ok.step (along_ok (fun x hx => hc.n.rng hx) (by omega)) ?_
  refine Ok.bind (Ok.forS (fun j (q : List GTest) => q = (c.Tests.take j).map (mapT (at0 F))) (by simp) ?_ ?_)
  · rintro j q hj rfl
    obtain ⟨t, ht⟩ := get_len hj
    have hm := List.mem_of_getElem? ht
    have hz := test_size hm
    have hT := hc.t t hm
    have hle := List.length_take_le j c.Tests
    unfold RoomC at hr
    simp only [idx_nat, ht, Option.bind_some]
    rw [mapE_ok fu t.A (by omega) hT.2.1, mapE_ok fu t.B (by omega) hT.2.2]
    simp only [Option.bind_some]
    rw [app_ok (by
      rw [List.length_map, List.length_take, Nat.min_eq_left (by omega)]
      refine Nat.le_trans (Nat.mul_le_mul_right _ ?_) hr
      simp; omega)]
    refine Ok.ret ?_
    rw [take_snoc ht, List.map_append]; rfl
  · rintro q rfl
    rw [List.take_length]
    exact Ok.ret rfl
theorem assigns_len {nf : Nat} {o : GOp} (h : ∀ j, AssAt (nf : Int) o.Assigns j) : o.Assigns.length ≤ nf := by
  have := nodup_short' (n := nf) (L := o.Assigns.map fun a => a.Fluent.toNat) ?_ ?_
  · simpa using this
  · refine List.pairwise_map.2 (List.pairwise_iff_getElem.2 fun i j hi hj hij => ?_)
    have h1 := h j _ (List.getElem?_eq_getElem hj)
    have h2 := h i _ (List.getElem?_eq_getElem hi)
    have := h1.2.2.1 i _ hij (List.getElem?_eq_getElem hi)
    have := h1.1
    have := h2.1
    omega
  · intro x hx
    obtain ⟨a, ha, rfl⟩ := List.mem_map.1 hx
    have := ass_rng h ha
    omega
theorem mapO_ok {o : GOp} (ho : GOpOK (A.length : Int) (F.length : Int) o) (hA : A.length ≤ 4096) (hF : F.length ≤ 4096) (hr : RoomO o) (hs : SizeOf.sizeOf o ≤ fu) : simplify_Map_operator_p fu ⟨A, F, O⟩ o = some (mapO (at0 A) (at0 F) o) := by
  apply Ok.eq
  unfold simplify_Map_operator_p
  have hp := pre_size o
  refine Ok.step (mapC_ok ho.pre hA hr.1 (by omega)) ?_
  have hnc := ho.nc
  refine Ok.bind (Ok.forS (fun j (q : List GChange) => q = ((o.Changes.take j).filter fun c => decide (0 ≤ at0 A c.Atom)).map (mapH (at0 A) (at0 F))) (by simp) ?_ ?_)
  · rintro j q hj rfl
    obtain ⟨c, hc⟩ := get_len hj
    have hm := List.mem_of_getElem? hc
    have hz := when_size hm
    have hC := ho.chg c hm
    have hle := List.length_take_le j o.Changes
    have hfl := List.length_filter_le (fun c => decide (0 ≤ at0 A c.Atom)) (o.Changes.take j)
    simp only [idx_nat, hc, Option.bind_some, idx_at hC.r0 hC.r1]
    rw [take_snoc hc, List.filter_append, List.map_append]
    by_cases h0 : 0 ≤ at0 A c.Atom
    · rw [if_pos (decide_eq_true h0), mapC_ok hC.w hA (hr.2 c hm) (by omega)]
      simp only [Option.bind_some]
      rw [app_ok (by rw [List.length_map]; simp only [List.length_cons, List.length_nil]; omega)]
      refine Ok.ret ?_
      simp [h0, mapH]
    · rw [if_neg (by simpa using h0)]
      simp only [Option.bind_some]
      refine Ok.ret ?_
      simp [h0]
  rintro q rfl
  rw [List.take_length]
  have hal := assigns_len ho.as
  refine Ok.bind (Ok.forS (fun j (q : List GAssign) => q = (o.Assigns.take j).map (mapG (at0 F))) (by simp) ?_ ?_)
  · rintro j q hj rfl
    obtain ⟨a, ha⟩ := get_len hj
    have hm := List.mem_of_getElem? ha
    have hz := value_size hm
    have hr := ass_rng ho.as hm
    have hle := List.length_take_le j o.Assigns
    simp only [idx_nat, ha, Option.bind_some, idx_at hr.1 hr.2.1]
    rw [mapE_ok fu a.Value (by omega) hr.2.2]
    simp only [Option.bind_some]
    rw [app_ok (by rw [List.length_map]; simp only [List.length_cons, List.length_nil]; omega)]
    refine Ok.ret ?_
    rw [take_snoc ha, List.map_append]; rfl
  · rintro q rfl
    rw [List.take_length]
    exact Ok.ret rfl
end
end Go.Pw
/-
  Equal expressions, conditions and operators, in plain Lean.
-/
set_option maxHeartbeats 8000000
namespace Go.Pw
open Classical in
theorem eqf_ok {α : Type} {xs ys : List α} [d : Decidable (xs = ys)] {B : Nat → Unit → Option (Ctl Unit Bool)} (h : xs.length = ys.length → ∀ (i : Nat) x y, xs[i]? = some x → ys[i]? = some y → B i () = some (if decide (x = y) then .next () else .ret false)) :
    (if (!decide ((xs.length : Int) = (ys.length : Int))) = true then some false else ctl (forC B xs.length 0 ()) (fun r => some r) (fun _ => some true)) = some (decide (xs = ys)) := by
  by_cases hl : xs.length = ys.length
  · rw [if_neg (by simpa using (by omega : (xs.length : Int) = (ys.length : Int)))]
    rw [ctl_all (r := false) (p := fun i => decide (xs[i]? = ys[i]?))]
    · by_cases he : xs = ys
      · subst he
        rw [if_pos (by simp)]; simp
      · rw [if_neg]
        · simp [he]
        · intro hall
          apply he
          apply List.ext_getElem?
          intro i
          by_cases hi : i < xs.length
          · have := List.all_eq_true.1 hall i (List.mem_range.2 hi)
            exact of_decide_eq_true this
          · rw [List.getElem?_eq_none (by omega), List.getElem?_eq_none (by omega)]
    · intro i hi
      obtain ⟨x, hx⟩ := get_len hi
      obtain ⟨y, hy⟩ := get_len (xs := ys) (i := i) (by omega)
      rw [h hl i x y hx hy]
      congr 1
      simp only [hx, hy, Option.some.injEq]
  · rw [if_pos (by simpa using (by omega : ¬ (xs.length : Int) = (ys.length : Int))), decide_eq_false fun e : xs = ys => hl (by rw [e])]
open Classical in
theorem ints_eq (xs ys : List Int) : slices_Equal___int_int__p xs ys = some (decide (xs = ys)) := by
  unfold slices_Equal___int_int__p
  refine eqf_ok fun _ i x y hx hy => ?_
  simp only [idx_nat, hx, hy, Option.bind_some]
  by_cases e : x = y <;> simp [e]
open Classical in
theorem sameExpr_ok : ∀ (fu : Nat) (a b : GExpr), SizeOf.sizeOf a < fu → simplify_sameExpr_p fu a b = some (decide (a = b))
  | 0, a, b, h => absurd h (Nat.not_lt_zero _)
  | fu + 1, ⟨op, N, ks⟩, ⟨op', N', ks'⟩, h => by
    rw [simplify_sameExpr_p]
    have hk : api_GExpr__f116_p ks ks' (simplify_sameExpr_p fu) = some (decide (ks = ks')) := by
      unfold api_GExpr__f116_p
      refine eqf_ok fun _ i x y hx hy => ?_
      have hz := kid_size (e := ⟨op, N, ks⟩) (List.mem_of_getElem? hx)
      simp only [idx_nat, hx, hy, Option.bind_some]
      rw [sameExpr_ok fu x y (by omega)]
      by_cases e : x = y <;> simp [e]
    simp only [hk]
    by_cases h1 : op = op'
    · by_cases h2 : N = N'
      · simp [h1, h2]
      · simp [h1, h2]
    · simp [h1]
section
variable {fu : Nat}
open Classical in
theorem sameCond_ok {a b : Cond} (hs : SizeOf.sizeOf a ≤ fu) : simplify_sameCond_p fu a b = some (decide (a = b)) := by
  have ht : api_GTest__f127_p fu a.Tests b.Tests = some (decide (a.Tests = b.Tests)) := by
    unfold api_GTest__f127_p
    refine eqf_ok fun _ i x y hx hy => ?_
    have hz := test_size (List.mem_of_getElem? hx)
    simp only [idx_nat, hx, hy, Option.bind_some]
    unfold simplify_sameCond_c1_p
    rw [sameExpr_ok fu x.A y.A (by omega), sameExpr_ok fu x.B y.B (by omega)]
    obtain ⟨o, p, q⟩ := x
    obtain ⟨o', p', q'⟩ := y
    by_cases h1 : o = o'
    · by_cases h2 : p = p'
      · by_cases h3 : q = q' <;> simp [h1, h2, h3]
      · simp [h1, h2]
    · simp [h1]
  unfold simplify_sameCond_p
  rw [ints_eq, ints_eq, ht]
  obtain ⟨p, n, t⟩ := a
  obtain ⟨p', n', t'⟩ := b
  by_cases h1 : p = p'
  · by_cases h2 : n = n'
    · by_cases h3 : t = t' <;> simp [h1, h2, h3]
    · simp [h1, h2]
  · simp [h1]
/-- Equal in all but name and cost. -/
def Alike (a b : GOp) : Prop := a.Pre = b.Pre ∧ a.Changes = b.Changes ∧ a.Assigns = b.Assigns
open Classical in
theorem alike_ok {a b : GOp} (hs : SizeOf.sizeOf a ≤ fu) : simplify_alike_p fu a b = some (decide (Alike a b)) := by
  have hp := pre_size a
  have hc : api_GChange__f113_p fu a.Changes b.Changes = some (decide (a.Changes = b.Changes)) := by
    unfold api_GChange__f113_p
    refine eqf_ok fun _ i x y hx hy => ?_
    have hz := when_size (List.mem_of_getElem? hx)
    simp only [idx_nat, hx, hy, Option.bind_some]
    unfold simplify_alike_c1_p
    rw [sameCond_ok (by omega)]
    obtain ⟨w, a, d⟩ := x
    obtain ⟨w', a', d'⟩ := y
    by_cases h1 : a = a'
    · by_cases h2 : d = d'
      · by_cases h3 : w = w' <;> simp [h1, h2, h3]
      · simp [h1, h2]
    · simp [h1]
  have ha : api_GAssign__f115_p fu a.Assigns b.Assigns = some (decide (a.Assigns = b.Assigns)) := by
    unfold api_GAssign__f115_p
    refine eqf_ok fun _ i x y hx hy => ?_
    have hz := value_size (List.mem_of_getElem? hx)
    simp only [idx_nat, hx, hy, Option.bind_some]
    unfold simplify_alike_c2_p
    rw [sameExpr_ok fu x.Value y.Value (by omega)]
    obtain ⟨f, v⟩ := x
    obtain ⟨f', v'⟩ := y
    by_cases h1 : f = f'
    · by_cases h2 : v = v' <;> simp [h1, h2]
    · simp [h1]
  unfold simplify_alike_p Alike
  rw [sameCond_ok (by omega), hc, ha]
  by_cases h1 : a.Pre = b.Pre
  · by_cases h2 : a.Changes = b.Changes
    · by_cases h3 : a.Assigns = b.Assigns <;> simp [h1, h2, h3]
    · simp [h1, h2]
  · simp [h1]
end
end Go.Pw
/-
  The operators that stay, in plain Lean.
-/
set_option maxHeartbeats 8000000
namespace Go.Pw
theorem forC_any_from {R : Type} {B : Nat → Bool → Option (Ctl Bool R)} {p : Nat → Bool} : ∀ (k i : Nat), (∀ j, i ≤ j → j < i + k → B j false = some (if p j then .brk true else .next false)) → forC B k i false = some (if (List.range' i k).any p then .brk true else .next false)
  | 0, i, _ => by simp [forC]
  | k + 1, i, h => by
    have h0 := h i (Nat.le_refl _) (by omega)
    simp only [forC, h0, List.range'_succ, List.any_cons]
    cases hp : p i with
    | false => simp only [Bool.false_eq_true, if_false, Bool.false_or]; exact forC_any_from k (i + 1) fun j h1 h2 => h j (by omega) (by omega)
    | true => simp
/-- A loop that looks for one and leaves. -/
theorem ctl_any {R β : Type} {B : Nat → Bool → Option (Ctl Bool R)} {p : Nat → Bool} {n : Nat} {kr : R → Option β} {k : Bool → Option β} (h : ∀ j, j < n → B j false = some (if p j then .brk true else .next false)) : ctl (forC B n 0 false) kr k = k ((List.range n).any p) := by
  rw [forC_any_from n 0 (fun j _ hj => h j (by omega)), ← List.range_eq_range']
  unfold ctl
  by_cases hh : (List.range n).any p = true
  · rw [if_pos hh, hh]; rfl
  · rw [if_neg hh, Bool.eq_false_iff.2 hh]; rfl
/-- q is there instead of p. -/
def Beats (L : List GOp) (q p : Nat) : Prop := ∃ x y, L[p]? = some x ∧ L[q]? = some y ∧ p ≠ q ∧ (y.Cost < x.Cost ∨ y.Cost = x.Cost ∧ q < p) ∧ Alike x y
def idL (n : Nat) : List Int := (List.range n).map fun (i : Nat) => (i : Int)
theorem idL_get {n i : Nat} (h : i < n) : (idL n)[i]? = some (i : Int) := by unfold idL; rw [List.getElem?_map, List.getElem?_range h]; rfl
theorem idL_len (n : Nat) : (idL n).length = n := by simp [idL]
open Classical in
noncomputable def nbL (L : List GOp) : List Bool := (List.range L.length).map fun p => decide (¬ ∃ q, Beats L q p)
theorem nbL_len (L : List GOp) : (nbL L).length = L.length := by simp [nbL]
theorem nbL_get {L : List GOp} {p : Nat} (h : p < L.length) : (nbL L)[p]? = some true ↔ ¬ ∃ q, Beats L q p := by
  unfold nbL
  rw [List.getElem?_map, List.getElem?_range h]
  simp
open Classical in
noncomputable def stayL (T : List Bool) (M : List GOp) : List Bool := (List.range M.length).map fun i => decide (T[i]? = some true ∧ ¬ ∃ j, T[j]? = some true ∧ Beats M j i)
theorem stayL_len (T : List Bool) (M : List GOp) : (stayL T M).length = M.length := by simp [stayL]
theorem stayL_get {T : List Bool} {M : List GOp} {i : Nat} (h : i < M.length) : (stayL T M)[i]? = some true ↔ T[i]? = some true ∧ ¬ ∃ j, T[j]? = some true ∧ Beats M j i := by
  unfold stayL
  rw [List.getElem?_map, List.getElem?_range h]
  simp
section
variable {T : List Bool} {M : List GOp}
theorem cnt_take_inj {i j : Nat} (hi : T[i]? = some true) (hj : T[j]? = some true) (h : cnt (T.take i) = cnt (T.take j)) : i = j := by
  rcases Nat.lt_trichotomy i j with a | a | a
  · have := cnt_lt_take a hi; omega
  · exact a
  · have := cnt_lt_take a hj; omega
theorem cnt_take_lt {i j : Nat} (hi : T[i]? = some true) (hj : T[j]? = some true) : cnt (T.take i) < cnt (T.take j) ↔ i < j := by
  constructor
  · intro h
    apply Classical.byContradiction
    intro hn
    have := cnt_mono_take (A := T) (show j ≤ i by omega)
    omega
  · intro h; exact cnt_lt_take h hi
theorem beats_keep (hl : M.length = T.length) {i : Nat} (hi : T[i]? = some true) : (∃ q, Beats (keep T M) q (cnt (T.take i))) ↔ ∃ j, T[j]? = some true ∧ Beats M j i := by
  have hi' := (List.getElem?_eq_some_iff.1 hi).1
  obtain ⟨x0, hx0⟩ := get_len (xs := M) (i := i) (by omega)
  have hk0 := keep_get hl hi hx0
  constructor
  · rintro ⟨q, x, y, hx, hy, hne, hc, ha⟩
    rw [hk0] at hx; cases hx
    obtain ⟨j, hj, hyj, rfl⟩ := keep_at hl hy
    exact ⟨j, hj, x0, y, hx0, hyj, fun e => hne (by rw [e]), hc.imp id fun h => ⟨h.1, (cnt_take_lt hj hi).1 h.2⟩, ha⟩
  · rintro ⟨j, hj, x, y, hx, hy, hne, hc, ha⟩
    rw [hx0] at hx; cases hx
    exact ⟨cnt (T.take j), x0, y, hk0, keep_get hl hj hy, fun e => hne (cnt_take_inj hi hj e), hc.imp id fun h => ⟨h.1, (cnt_take_lt hj hi).2 h.2⟩, ha⟩
theorem stay_nb (hl : M.length = T.length) {i : Nat} (h : i < M.length) : (stayL T M)[i]? = some true ↔ T[i]? = some true ∧ (nbL (keep T M))[cnt (T.take i)]? = some true := by
  rw [stayL_get h]
  refine and_congr_right fun hi => ?_
  obtain ⟨x, hx⟩ := get_len h
  have := (List.getElem?_eq_some_iff.1 (keep_get hl hi hx)).1
  rw [nbL_get this, beats_keep hl hi]
theorem keep_keep (hl : M.length = T.length) : ∀ j, j ≤ M.length → keepTo (nbL (keep T M)) (keep T M) (cnt (T.take j)) = keepTo (stayL T M) M j
  | 0, _ => by simp [keepTo, cnt]
  | j + 1, h => by
    obtain ⟨b, hb⟩ := get_len (xs := T) (i := j) (by omega)
    obtain ⟨x, hx⟩ := get_len (xs := M) (i := j) (by omega)
    have ih := keep_keep hl j (by omega)
    have hs := stay_nb hl (show j < M.length by omega)
    rw [keepTo_succ hx, cnt_step hb]
    cases b with
    | true =>
      simp only [Bool.toNat_true]
      rw [keepTo_succ (keep_get hl hb hx), ih]
      congr 1
      by_cases h1 : (stayL T M)[j]? = some true
      · rw [if_pos h1, if_pos (hs.1 h1).2]
      · rw [if_neg h1, if_neg fun h2 => h1 (hs.2 ⟨hb, h2⟩)]
    | false =>
      simp only [Bool.toNat_false, Nat.add_zero]
      rw [if_neg (fun h1 => by have := (hs.1 h1).1; rw [hb] at this; cases this), List.append_nil, ih]
theorem stay_cnt (hl : M.length = T.length) {j : Nat} (h : j ≤ M.length) : cnt ((nbL (keep T M)).take (cnt (T.take j))) = cnt ((stayL T M).take j) := by
  have h1 := keepTo_count (S := stayL T M) (xs := M) (by rw [stayL_len]) j (by rw [stayL_len]; exact h)
  have hk : cnt (T.take j) ≤ (keep T M).length := by
    rw [keep_count hl]
    have := cnt_mono_take (A := T) (show j ≤ T.length by omega)
    rwa [List.take_length] at this
  have h2 := keepTo_count (S := nbL (keep T M)) (xs := keep T M) (by rw [nbL_len]) (cnt (T.take j)) (by rw [nbL_len]; exact hk)
  rw [keep_keep hl j h] at h2
  omega
end
section
variable {fu : Nat} {A F : List Bool} {z : Bool} {g : Ground}
open Classical in
/-- The operators that a relevant thing is touched by. -/
noncomputable def touL (A F : List Bool) (g : Ground) : List Bool := g.Ops.map fun o => decide (Touch (Mk A) (Mk F) o)
noncomputable def mapL (A F : List Bool) (g : Ground) : List GOp := g.Ops.map (mapO (at0 (numF A)) (at0 (numF F)))
open Classical in
theorem operators_ok (hv : ValidG g) (hr : RoomG g) (la : A.length = g.Atoms.length) (lf : F.length = g.Fluents.length) (hs : SizeOf.sizeOf g ≤ fu) (hm : ∀ x ∈ mapL A F g, SizeOf.sizeOf x ≤ fu) {O : List Int} :
    simplify_Map_operators_p fu ⟨numF A, numF F, O⟩ g ⟨A, F, z⟩ = some (keep (stayL (touL A F g) (mapL A F g)) (mapL A F g), numF (stayL (touL A F g) (mapL A F g))) := by
  have hn := hv.o
  have hna := hv.a
  have hnf := hv.f
  generalize hT : touL A F g = T
  generalize hM : mapL A F g = M
  have lT : T.length = g.Ops.length := by rw [← hT]; simp [touL]
  have lM : M.length = g.Ops.length := by rw [← hM]; simp [mapL]
  have hl : M.length = T.length := by omega
  rw [hM] at hm
  apply Ok.eq
  unfold simplify_Map_operators_p
  have cap : ∀ (S : List Bool) {α : Type} (xs : List α) (j : Nat), (keepTo S xs j).length ≤ j := fun S α xs j => by
    unfold keepTo
    exact Nat.le_trans (List.length_filterMap_le _ _) (by simp)
  refine Ok.bind (Ok.forS (fun j (q : List GOp × List Int) => q = (keepTo T M j, keepTo T (idL g.Ops.length) j)) (by simp [keepTo]) ?_ ?_)
  · rintro j q hj rfl
    obtain ⟨o, ho⟩ := get_len hj
    have hmo := List.mem_of_getElem? ho
    have hz := op_size hmo
    have hO : GOpOK (A.length : Int) (F.length : Int) o := by rw [la, lf]; exact hv.op o hmo
    have hTj : T[j]? = some (@decide (Touch (Mk A) (Mk F) o) (Classical.propDecidable _)) := by rw [← hT]; unfold touL; rw [List.getElem?_map, ho]; rfl
    have hMj : M[j]? = some (mapO (at0 (numF A)) (at0 (numF F)) o) := by rw [← hM]; unfold mapL; rw [List.getElem?_map, ho]; rfl
    have c1 := cap T M j
    have c2 := cap T (idL g.Ops.length) j
    simp only [un2, idx_nat, ho, Option.bind_some]
    rw [mtouch_ok hO]
    simp only [Option.bind_some]
    rw [keepTo_succ hMj, keepTo_succ (idL_get hj), hTj]
    by_cases ht : Touch (Mk A) (Mk F) o
    · rw [if_pos (decide_eq_true ht), mapO_ok (by rw [numF_len, numF_len]; exact hO) (by rw [numF_len]; omega) (by rw [numF_len]; omega) (hr.2 o hmo) (by omega)]
      simp only [Option.bind_some]
      rw [app_ok (by simp only [List.length_cons, List.length_nil]; omega), app_ok (by simp only [List.length_cons, List.length_nil]; omega)]
      refine Ok.ret ?_
      simp [ht]
    · rw [if_neg (by simpa using ht)]
      simp only [Option.bind_some]
      refine Ok.ret ?_
      simp [ht]
  rintro q rfl
  simp only [un2]
  rw [show keepTo T M g.Ops.length = keep T M by rw [← keepTo_len, lM], show keepTo T (idL g.Ops.length) g.Ops.length = keep T (idL g.Ops.length) by rw [← keepTo_len, idL_len]]
  rw [mk_ok (n := g.Ops.length) (by omega) (by omega)]
  simp only [Option.bind_some]
  have hki : ∀ {i : Nat}, T[i]? = some true → (keep T (idL g.Ops.length))[cnt (T.take i)]? = some (i : Int) := fun {i} h => keep_get (by rw [idL_len]; omega) h (idL_get (by have := (List.getElem?_eq_some_iff.1 h).1; omega))
  refine Ok.bind (Ok.forS (fun j (q : List Int) => q.length = g.Ops.length ∧ ∀ i, i < j → q[i]? = some (-1)) ⟨by simp, fun i h => absurd h (Nat.not_lt_zero i)⟩ ?_ ?_)
  · rintro j q hj ⟨h1, h2⟩
    rw [List.length_replicate] at hj
    obtain ⟨x, hx⟩ := get_len (xs := q) (i := j) (by omega)
    simp only [idx_nat, hx, Option.bind_some, setI_nat (show j < q.length by omega)]
    refine Ok.ret ⟨by simp [h1], fun i hi => ?_⟩
    by_cases e : i = j
    · subst e; rw [List.getElem?_set_self (by omega)]
    · rw [List.getElem?_set_ne (Ne.symm e)]; exact h2 i (by omega)
  rintro to0 ⟨h1, h2⟩
  rw [List.length_replicate] at h2
  generalize hk : keep T M = k
  have kl : k.length = cnt T := by rw [← hk, keep_count hl]
  have kc := cnt_le T
  have nl := nbL_len k
  refine Ok.bind (Ok.forS (fun p (q : List GOp × List Int) => q.1 = keepTo (nbL k) k p ∧ q.2.length = g.Ops.length ∧
      ∀ i, i < g.Ops.length → q.2[i]? = some (if T[i]? = some true ∧ cnt (T.take i) < p ∧ (nbL k)[cnt (T.take i)]? = some true then ((cnt ((nbL k).take (cnt (T.take i))) : Nat) : Int) else -1))
    ⟨by simp [keepTo], h1, fun i hi => by rw [if_neg fun h => absurd h.2.1 (Nat.not_lt_zero _)]; exact h2 i hi⟩ ?_ ?_)
  · rintro p ⟨out, to⟩ hp ⟨rfl, k2, k3⟩
    simp only at k2 k3
    obtain ⟨x, hx⟩ := get_len hp
    have hxm : SizeOf.sizeOf x ≤ fu := by
      rw [← hk] at hx
      obtain ⟨i, _, hxi, _⟩ := keep_at hl hx
      exact hm x (List.mem_of_getElem? hxi)
    obtain ⟨i0, hi0, hx0, hp0⟩ : ∃ i : Nat, T[i]? = some true ∧ M[i]? = some x ∧ cnt (T.take i) = p := by rw [← hk] at hx; exact keep_at hl hx
    have hi0' := (List.getElem?_eq_some_iff.1 hi0).1
    simp only [un2, idx_nat, hx, Option.bind_some]
    rw [ctl_any (p := fun q => @decide (Beats k q p) (Classical.propDecidable _))]
    rotate_left
    · intro q hq
      obtain ⟨y, hy⟩ := get_len hq
      simp only [idx_nat, hy, Option.bind_some]
      have hB : Beats k q p ↔ p ≠ q ∧ (y.Cost < x.Cost ∨ y.Cost = x.Cost ∧ q < p) ∧ Alike x y := by
        constructor
        · rintro ⟨x', y', e1, e2, r⟩
          rw [hx] at e1; rw [hy] at e2
          cases e1; cases e2
          exact r
        · intro r; exact ⟨x, y, hx, hy, r⟩
      rw [alike_ok hxm]
      by_cases d1 : (p : Int) = (q : Int)
      · have : ¬ Beats k q p := fun h => (hB.1 h).1 (by omega)
        simp [d1, this]
      · have d1' : p ≠ q := fun e => d1 (by rw [e])
        by_cases d2 : y.Cost < x.Cost
        · by_cases d4 : Alike x y
          · have : Beats k q p := hB.2 ⟨d1', .inl d2, d4⟩
            simp [d1, d2, d4, this]
          · have : ¬ Beats k q p := fun h => d4 (hB.1 h).2.2
            simp [d1, d2, d4, this]
        · by_cases d3 : y.Cost = x.Cost
          · by_cases d5 : q < p
            · have d5' : (q : Int) < (p : Int) := by omega
              by_cases d4 : Alike x y
              · have : Beats k q p := hB.2 ⟨d1', .inr ⟨d3, d5⟩, d4⟩
                simp [d1, d2, d3, d4, d5, d5', this]
              · have : ¬ Beats k q p := fun h => d4 (hB.1 h).2.2
                simp [d1, d2, d3, d4, d5, d5', this]
            · have d5' : ¬ (q : Int) < (p : Int) := by omega
              have : ¬ Beats k q p := fun h => by
                rcases (hB.1 h).2.1 with h | h
                · exact d2 h
                · exact d5 h.2
              simp [d1, d2, d3, d5, d5', this]
          · have : ¬ Beats k q p := fun h => by
              rcases (hB.1 h).2.1 with h | h
              · exact d2 h
              · exact d3 h.1
            simp [d1, d2, d3, this]
    have hnb := nbL_get hp
    have hany : ((List.range k.length).any fun q => @decide (Beats k q p) (Classical.propDecidable _)) = true ↔ ∃ q, Beats k q p := by
      rw [List.any_eq_true]
      constructor
      · rintro ⟨q, _, h⟩; exact ⟨q, of_decide_eq_true h⟩
      · rintro ⟨q, h⟩
        obtain ⟨_, y, _, hy, _⟩ := id h
        exact ⟨q, List.mem_range.2 (List.getElem?_eq_some_iff.1 hy).1, decide_eq_true h⟩
    have cp := cap (nbL k) k p
    have ck := keepTo_count (S := nbL k) (xs := k) (by omega) p (by omega)
    rw [keepTo_succ hx]
    by_cases hb : ∃ q, Beats k q p
    · rw [hany.2 hb, if_neg (by simp)]
      have hnn : ¬ (nbL k)[p]? = some true := fun h => hnb.1 h hb
      simp only [Option.bind_some]
      rw [if_neg hnn, List.append_nil]
      refine Ok.ret ⟨rfl, k2, fun i hi => ?_⟩
      rw [k3 i hi]
      congr 1
      by_cases e : T[i]? = some true ∧ cnt (T.take i) < p ∧ (nbL k)[cnt (T.take i)]? = some true
      · rw [if_pos e, if_pos ⟨e.1, by omega, e.2.2⟩]
      · rw [if_neg e, if_neg]
        rintro ⟨a, b, c⟩
        by_cases hh : cnt (T.take i) = p
        · rw [hh] at c; exact hnn c
        · exact e ⟨a, by omega, c⟩
    · have hnn := hnb.2 hb
      rw [Bool.eq_false_iff.2 fun h => hb (hany.1 h), if_pos (by simp)]
      have hold : (keep T (idL g.Ops.length))[p]? = some (i0 : Int) := by rw [← hp0]; exact hki hi0
      obtain ⟨y0, hy0⟩ := get_len (xs := to) (i := i0) (by omega)
      simp only [hold, Option.bind_some, idx_nat, hy0, setI_nat (show i0 < to.length by omega)]
      rw [app_ok (by simp only [List.length_cons, List.length_nil]; omega)]
      rw [if_pos hnn]
      refine Ok.ret ⟨rfl, by simp [k2], fun i hi => ?_⟩
      by_cases e : i = i0
      · subst e
        show (to.set i _)[i]? = _
        rw [List.getElem?_set_self (by omega), if_pos ⟨hi0, by omega, by rw [hp0]; exact hnn⟩, hp0, ck]
      · show (to.set i0 _)[i]? = _
        rw [List.getElem?_set_ne (Ne.symm e), k3 i hi]
        congr 1
        by_cases e2 : T[i]? = some true ∧ cnt (T.take i) < p ∧ (nbL k)[cnt (T.take i)]? = some true
        · rw [if_pos e2, if_pos ⟨e2.1, by omega, e2.2.2⟩]
        · rw [if_neg e2, if_neg]
          rintro ⟨a, b, c⟩
          by_cases hh : cnt (T.take i) = p
          · exact e (cnt_take_inj a hi0 (by rw [hh, hp0]))
          · exact e2 ⟨a, by omega, c⟩
  · rintro ⟨out, to⟩ ⟨rfl, k2, k3⟩
    simp only at k2 k3
    refine Ok.ret ?_
    have e1 : keepTo (nbL k) k k.length = keep (stayL T M) M := by
      have := keep_keep hl M.length (Nat.le_refl _)
      rw [hl, List.take_length, ← kl, hk] at this
      rw [this, ← hl, keepTo_len]
    have e2 : to = numF (stayL T M) := by
      apply List.ext_getElem?
      intro i
      by_cases hi : i < g.Ops.length
      · have hiM : i < M.length := by omega
        rw [k3 i hi, numF_get (by rw [stayL_len]; omega)]
        congr 1
        have hs := stay_nb hl hiM
        have hc := stay_cnt hl (show i ≤ M.length by omega)
        rw [hk] at hs hc
        by_cases h : (stayL T M)[i]? = some true
        · obtain ⟨a, b⟩ := hs.1 h
          rw [if_pos h, if_pos ⟨a, by have := (List.getElem?_eq_some_iff.1 b).1; omega, b⟩, hc]
        · rw [if_neg h, if_neg fun q => h (hs.2 ⟨q.1, q.2.2⟩)]
      · rw [List.getElem?_eq_none (by omega), List.getElem?_eq_none (by rw [numF_len, stayL_len]; omega)]
    rw [e1, e2]
end
end Go.Pw
/-
  The simplified task, in plain Lean.
-/
set_option maxHeartbeats 8000000
namespace Go.Pw
structure RoomT (g : Ground) : Prop where
  c : RoomG g
  a : ∀ x ∈ g.Atoms, x.Args.length * 16 ≤ 140737488355328
  f : ∀ x ∈ g.Fluents, x.Fluent.Args.length * 16 ≤ 140737488355328
noncomputable def staL (A F : List Bool) (g : Ground) : List Bool := stayL (touL A F g) (mapL A F g)
noncomputable def simpG (A F : List Bool) (g : Ground) : Ground :=
  ⟨keep A g.Atoms, keep F g.Fluents, (g.Init.filter fun i => decide (0 ≤ at0 (numF A) i)).map (at0 (numF A)), g.Goal.map (mapC (at0 (numF A)) (at0 (numF F))), keep (staL A F g) (mapL A F g)⟩
theorem clone_ok {s : List ByteArray} (h : s.length * 16 ≤ 140737488355328) : slices_Clone___string_string__p s = some s := by
  unfold slices_Clone___string_string__p
  rw [app_ok (by simpa using h)]
  rfl
theorem keepTo_le {α : Type} (S : List Bool) (xs : List α) (j : Nat) : (keepTo S xs j).length ≤ j := by
  unfold keepTo
  exact Nat.le_trans (List.length_filterMap_le _ _) (by simp)
section
variable {fu : Nat} {g : Ground}
theorem simplify_ok (hv : ValidG g) (hl : LenG g) (hr : RoomT g) (hs : SizeOf.sizeOf g ≤ fu) {A F : List Bool} (hL : Least g A F) (hm : ∀ x ∈ mapL A F g, SizeOf.sizeOf x ≤ fu) :
    simplify_Simplify_p fu g = some (none, simpG A F g, ⟨numF A, numF F, numF (staL A F g)⟩) := by
  have la := hL.la
  have lf := hL.lf
  have hn := hv.o
  have hna := hv.a
  have hnf := hv.f
  have hgl := hv.gl
  apply Ok.eq
  unfold simplify_Simplify_p
  refine Ok.step (valid_ok hl hs) ?_
  simp only [hv, decide_true, Bool.not_true, Bool.false_eq_true, if_false]
  obtain ⟨d, e1, h1⟩ := mrelevant_ok hv hs
  obtain ⟨ea, ef⟩ := h1.uniq hL
  obtain ⟨A', F', z⟩ := d
  simp only at ea ef
  subst ea ef
  refine Ok.step e1 ?_
  refine Ok.step (numbers_ok (by simp only; omega)) ?_
  refine Ok.step (numbers_ok (by simp only; omega)) ?_
  simp only
  refine Ok.bind (Ok.forS (fun j (q : List Atom) => q = keepTo A' g.Atoms j) (by simp [keepTo]) ?_ ?_)
  · rintro j q hj rfl
    obtain ⟨x, hx⟩ := get_len hj
    obtain ⟨b, hb⟩ := get_len (xs := A') (i := j) (by omega)
    have c1 := keepTo_le A' g.Atoms j
    simp only [idx_nat, hx, hb, Option.bind_some]
    rw [keepTo_succ hx, hb]
    cases b with
    | true =>
      simp only [if_true]
      rw [clone_ok (hr.a x (List.mem_of_getElem? hx))]
      simp only [Option.bind_some]
      rw [app_ok (by simp only [List.length_cons, List.length_nil]; omega)]
      exact Ok.ret rfl
    | false =>
      simp only [Bool.false_eq_true, if_false, Option.bind_some]
      refine Ok.ret ?_
      simp
  rintro q rfl
  refine Ok.bind (Ok.forS (fun j (q : List GFluent) => q = keepTo F' g.Fluents j) (by simp [keepTo]) ?_ ?_)
  · rintro j q hj rfl
    obtain ⟨x, hx⟩ := get_len hj
    obtain ⟨b, hb⟩ := get_len (xs := F') (i := j) (by omega)
    have c1 := keepTo_le F' g.Fluents j
    simp only [idx_nat, hx, hb, Option.bind_some]
    rw [keepTo_succ hx, hb]
    cases b with
    | true =>
      simp only [if_true]
      rw [clone_ok (hr.f x (List.mem_of_getElem? hx))]
      simp only [Option.bind_some]
      rw [app_ok (by simp only [List.length_cons, List.length_nil]; omega)]
      exact Ok.ret rfl
    | false =>
      simp only [Bool.false_eq_true, if_false, Option.bind_some]
      refine Ok.ret ?_
      simp
  rintro q rfl
  have hil := hv.i.len_le
  refine Ok.bind (Ok.forS (fun j (q : List Int) => q = ((g.Init.take j).filter fun i => decide (0 ≤ at0 (numF A') i)).map (at0 (numF A'))) (by simp) ?_ ?_)
  · rintro j q hj rfl
    obtain ⟨x, hx⟩ := get_len hj
    have hxr := hv.i.rng (List.mem_of_getElem? hx)
    obtain ⟨b, hb⟩ := get_len (xs := A') (i := x.toNat) (by omega)
    have hmk := at0_mk (A := A') hxr.1 (by omega)
    have hmk2 : Mk A' x ↔ b = true := by unfold Mk; rw [hb]; simp [hxr.1]
    have hle := List.length_take_le j g.Init
    have hfl := List.length_filter_le (fun i => decide (0 ≤ at0 (numF A') i)) (g.Init.take j)
    simp only [idx_nat, hx, Option.bind_some, idx_int hxr.1, hb]
    rw [take_snoc hx, List.filter_append, List.map_append]
    cases b with
    | true =>
      have h0 : 0 ≤ at0 (numF A') x := hmk.2 (hmk2.2 rfl)
      have hi : (numF A')[x.toNat]? = some (at0 (numF A') x) := by rw [← idx_int hxr.1]; exact idx_at hxr.1 (by rw [numF_len]; omega)
      simp only [if_true, hi, Option.bind_some]
      rw [app_ok (by rw [List.length_map]; simp only [List.length_cons, List.length_nil]; omega)]
      refine Ok.ret ?_
      simp [h0]
    | false =>
      have h0 : ¬ 0 ≤ at0 (numF A') x := fun h => by have := hmk2.1 (hmk.1 h); cases this
      simp only [Bool.false_eq_true, if_false, Option.bind_some]
      refine Ok.ret ?_
      simp [h0]
  rintro q rfl
  refine Ok.bind (Ok.forS (fun j (q : List Cond) => q = (g.Goal.take j).map (mapC (at0 (numF A')) (at0 (numF F')))) (by simp) ?_ ?_)
  · rintro j q hj rfl
    obtain ⟨c, hc⟩ := get_len hj
    have hcm := List.mem_of_getElem? hc
    have hz := goal_size hcm
    have hle := List.length_take_le j g.Goal
    simp only [idx_nat, hc, Option.bind_some]
    rw [mapC_ok (by rw [numF_len, numF_len, la, lf]; exact hv.goal c hcm) (by rw [numF_len]; omega) (hr.c.1 c hcm) (by omega)]
    simp only [Option.bind_some]
    rw [app_ok (by rw [List.length_map]; simp only [List.length_cons, List.length_nil]; omega)]
    refine Ok.ret ?_
    rw [take_snoc hc, List.map_append]; rfl
  rintro q rfl
  rw [operators_ok (z := z) hv hr.c la lf hs hm]
  refine Ok.ret ?_
  rw [List.take_length, List.take_length, keepTo_len, keepTo_len]
  rfl
end
end Go.Pw
