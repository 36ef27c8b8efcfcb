/-
  What an operator deletes for certain, in plain Lean: the program's and the reference's.
-/
import Derived.Test.YtcabhickgjhkhaaGreatDoorIsPz
set_option maxHeartbeats 4000000
set_option linter.unusedSimpArgs false
set_option linter.unusedVariables false
namespace Go.Pw
theorem all_loop {m : BMap} {L : List Int} (hm : Keys m L) (c : List Int) (hc : ∀ x ∈ c, i64ok x) : ∀ (xs pre : List Int) (a : Bool), c = pre ++ xs →
    forS (fun i101 => fun (all100 : Bool) => (idx c (i101 : Int)).bind fun x101 =>
      (if all100 then ((bmapGet m x101).bind fun q100 =>
      some q100)
      else (some false)).bind (fun (all101 : Bool) => some all101)) xs.length pre.length a = some (a && decide (∀ x ∈ xs, x ∈ L))
  | [], pre, a, _ => by simp [forS]
  | x :: xs, pre, a, e => by
    have hx : c[pre.length]? = some x := by rw [e, List.getElem?_append_right (Nat.le_refl _)]; simp
    have ih := all_loop hm c hc xs (pre ++ [x]) (a && decide (x ∈ L)) (by simp [e])
    rw [List.length_append, List.length_singleton] at ih
    rw [List.length_cons]
    refine forS_s (a && decide (x ∈ L)) ?_ ?_
    · simp only [idx_nat, hx, Option.bind_some]
      unfold bmapGet
      rw [if_pos (hc x (List.mem_of_getElem? hx)), hm x]
      by_cases h : x ∈ L <;> cases a <;> simp [h]
    · rw [ih]
      cases a <;> by_cases h : x ∈ L <;> simp [h]
def Del (y : Int) (P N : List Int) (c : GChange) : Prop := c.Add = false ∧ c.Atom = y ∧ c.When.Tests.length = 0 ∧ (∀ x ∈ c.When.Pos, x ∈ P) ∧ (∀ x ∈ c.When.Neg, x ∈ N)
open Classical in
theorem deletes_ok {o : GOp} {y : Int} {mp mn : BMap} {P N : List Int} (hp : Keys mp P) (hn : Keys mn N) (hd : ∀ c ∈ o.Changes, OkC c.When) : invariant_literals_deletes_o_p ⟨mp, mn⟩ o y = some (decide (∃ c ∈ o.Changes, Del y P N c)) := by
  unfold invariant_literals_deletes_o_p
  rw [ctl_forP (xs := o.Changes) (r := true) (fun c => ¬ Del y P N c)]
  · by_cases h : ∃ c ∈ o.Changes, Del y P N c
    · rw [decide_eq_true h, if_neg (fun q => by obtain ⟨c, hc, hD⟩ := h; exact q c hc hD)]
    · rw [decide_eq_false h, if_pos (fun c hc hD => h ⟨c, hc, hD⟩)]
  · intro i c hc
    have ho := hd c (List.mem_of_getElem? hc)
    have e1 := all_loop hp c.When.Pos ho.1 c.When.Pos [] true rfl
    have e2 := all_loop hn c.When.Neg ho.2 c.When.Neg [] (decide (∀ x ∈ c.When.Pos, x ∈ P)) rfl
    simp only [List.length_nil, Bool.true_and] at e1 e2
    rw [idx_nat, hc, Option.bind_some]
    by_cases hq : c.Add = false ∧ c.Atom = y ∧ c.When.Tests.length = 0
    · obtain ⟨q1, q2, q3⟩ := hq
      rw [if_neg (by simp [q1, q2, q3]), e1, Option.bind_some, e2, Option.bind_some]
      by_cases hD : Del y P N c
      · have hz : (decide (∀ x ∈ c.When.Pos, x ∈ P) && decide (∀ x ∈ c.When.Neg, x ∈ N)) = true := by
          rw [Bool.and_eq_true]; exact ⟨decide_eq_true hD.2.2.2.1, decide_eq_true hD.2.2.2.2⟩
        rw [hz]; simp [hD]
      · have hz : (decide (∀ x ∈ c.When.Pos, x ∈ P) && decide (∀ x ∈ c.When.Neg, x ∈ N)) = false := by
          rw [Bool.eq_false_iff]
          intro q
          rw [Bool.and_eq_true] at q
          exact hD ⟨q1, q2, q3, of_decide_eq_true q.1, of_decide_eq_true q.2⟩
        rw [hz]; simp [hD]
    · have hD : ¬ Del y P N c := fun h => hq ⟨h.1, h.2.1, h.2.2.1⟩
      rw [if_pos]
      · simp [hD]
      cases h6 : c.Add
      · simp only [Bool.false_or, Bool.or_eq_true, Bool.not_eq_true', decide_eq_false_iff_not, decide_eq_true_eq]
        by_cases h7 : c.Atom = y
        · exact .inr (by have : ¬ c.When.Tests.length = 0 := fun q => hq ⟨h6, h7, q⟩; omega)
        · exact .inl h7
      · rfl
end Go.Pw
/-
  What an operator deletes for certain: the reference's word for it.
-/
set_option maxHeartbeats 4000000
namespace Go.Pw
end Go.Pw
/-
  The binary search in an ascending list, in plain Lean.
-/
set_option maxHeartbeats 4000000
namespace Go.Pw
theorem mid_ok {i j : Int} (h0 : 0 ≤ i) (h1 : i < j) (h2 : j ≤ 1000000) : IntKind.i64.wrap ((IntKind.u64.wrap (IntKind.i64.wrap (i + j))).fdiv (2 ^ 1)) = (i + j) / 2 := by
  rw [wrap_id (n := i + j) (by omega) (by omega)]
  have e : IntKind.u64.wrap (i + j) = i + j := IntWalk.u64_in (i + j) ⟨by omega, by omega⟩
  rw [e, show ((2 : Int) ^ 1) = 2 from rfl, Int.fdiv_eq_ediv_of_nonneg _ (by omega), wrap_id (by omega) (by omega)]
theorem bs_asc {g : List Int} {t : Int} (hg : g.Pairwise (· < ·)) (hn : g.length ≤ 1000000) : ∃ i : Int, slices_BinarySearch_int_p g t = some (i, decide (t ∈ g)) := by
  have hlt : ∀ x y : Int, cmp_Less_int_t x y = decide (x < y) := fun x y => by
    have h := cmp_Less_int_tot x y
    have h1 := cmp_isNaN_int_tot x
    have h2 := cmp_isNaN_int_tot y
    unfold cmp_Less_int_p at h
    unfold cmp_isNaN_int_p at h1 h2
    rw [← Zu h, ← Zu h1]
    simp
  have hnan : ∀ x : Int, slices_isNaN_int_t x = false := fun x => by
    have h := slices_isNaN_int_tot x
    unfold slices_isNaN_int_p at h
    rw [← Zu h]; simp
  have hget : ∀ (a b : Nat) (x y : Int), a < b → g[a]? = some x → g[b]? = some y → x < y := fun a b x y hab hx hy => by
    obtain ⟨ha, rfl⟩ := List.getElem?_eq_some_iff.1 hx
    obtain ⟨hb, rfl⟩ := List.getElem?_eq_some_iff.1 hy
    exact List.pairwise_iff_getElem.1 hg a b ha hb hab
  have key : Ok (slices_BinarySearch_int_p g t) (fun r => r.2 = decide (t ∈ g)) := by
    unfold slices_BinarySearch_int_p
    refine Ok.while (fun (p : Int × Int) => 0 ≤ p.1 ∧ p.1 ≤ p.2 ∧ p.2 ≤ (g.length : Int) ∧ (∀ (k : Nat) x, g[k]? = some x → (k : Int) < p.1 → x < t) ∧ (∀ (k : Nat) x, g[k]? = some x → p.2 ≤ (k : Int) → t ≤ x))
      (fun p => p.1 = p.2 ∧ 0 ≤ p.1 ∧ p.1 ≤ (g.length : Int) ∧ (∀ (k : Nat) x, g[k]? = some x → (k : Int) < p.1 → x < t) ∧ (∀ (k : Nat) x, g[k]? = some x → p.1 ≤ (k : Int) → t ≤ x)) (fun _ => False) (fun p => (p.2 - p.1).toNat) ⟨by omega, by omega, by omega, fun k x _ h => by omega, fun k x hx h => by have := (List.getElem?_eq_some_iff.1 hx).1; omega⟩ ?_ (fun _ h => h.elim) ?_
    · rintro ⟨i, j⟩ ⟨h0, h1, h2, h3, h4⟩
      simp only at h0 h1 h2 h3 h4
      simp only [un2]
      by_cases hij : i < j
      · rw [if_pos (decide_eq_true hij), mid_ok h0 hij (by omega)]
        obtain ⟨x, hx⟩ : ∃ x, g[((i + j) / 2).toNat]? = some x := ⟨g[((i + j) / 2).toNat]'(by omega), List.getElem?_eq_getElem (by omega)⟩
        have hidx : idx g ((i + j) / 2) = some x := by unfold idx; rw [if_pos (by omega)]; exact hx
        rw [hidx, Option.bind_some, hlt]
        by_cases hl : x < t
        · rw [if_pos (decide_eq_true hl), wrap_id (by omega) (by omega)]
          refine ⟨_, rfl, ?_, (by intro s' h; cases h), (by intro r h; cases h)⟩
          rintro s' h; cases h
          exact ⟨⟨by omega, by omega, h2, fun k y hy hk => by
            by_cases e : (k : Int) = (i + j) / 2
            · have : k = ((i + j) / 2).toNat := by omega
              subst this; rw [hx] at hy; cases hy; exact hl
            · have := hget k ((i + j) / 2).toNat y x (by omega) hy hx; omega, h4⟩, by simp only; omega⟩
        · rw [if_neg (by simpa using hl)]
          refine ⟨_, rfl, ?_, (by intro s' h; cases h), (by intro r h; cases h)⟩
          rintro s' h; cases h
          exact ⟨⟨h0, by omega, by omega, h3, fun k y hy hk => by
            by_cases e : (k : Int) = (i + j) / 2
            · have : k = ((i + j) / 2).toNat := by omega
              subst this; rw [hx] at hy; cases hy; omega
            · have := hget ((i + j) / 2).toNat k x y (by omega) hx hy; omega⟩, by simp only; omega⟩
      · rw [if_neg (by simpa using hij)]
        refine ⟨_, rfl, (by intro s' h; cases h), ?_, (by intro r h; cases h)⟩
        rintro s' h; cases h
        exact ⟨by omega, h0, by omega, h3, fun k x hx hk => h4 k x hx (by omega)⟩
    · rintro ⟨i, j⟩ ⟨e, h0, h2, h3, h4⟩
      simp only at e h0 h2 h3 h4
      subst e
      simp only [un2]
      have hno : (∀ (k : Nat) x, g[k]? = some x → (k : Int) = i → x ≠ t) → ¬ t ∈ g := fun hne hm => by
        obtain ⟨k, hk, hkt⟩ := List.getElem_of_mem hm
        have hx := List.getElem?_eq_getElem hk
        rw [hkt] at hx
        by_cases e : (k : Int) = i
        · exact hne k t hx e rfl
        · by_cases q : (k : Int) < i
          · have := h3 k t hx q; omega
          · have hi : i.toNat < g.length := by omega
            have hy := List.getElem?_eq_getElem hi
            have a1 := h4 i.toNat _ hy (by omega)
            have a2 := hget i.toNat k _ t (by omega) hy hx
            omega
      by_cases hi : i < (g.length : Int)
      · obtain ⟨x, hx⟩ : ∃ x, g[i.toNat]? = some x := ⟨g[i.toNat]'(by omega), List.getElem?_eq_getElem (by omega)⟩
        have hidx : idx g i = some x := by unfold idx; rw [if_pos h0]; exact hx
        rw [if_pos (decide_eq_true hi), hidx, Option.bind_some]
        by_cases hxt : x = t
        · rw [if_pos (decide_eq_true hxt), Option.bind_some]
          exact Ok.ret (decide_eq_true (hxt ▸ List.mem_of_getElem? hx)).symm
        · rw [if_neg (by simpa using hxt), hnan, if_neg (by simp), Option.bind_some]
          exact Ok.ret (decide_eq_false (hno fun k y hy hk => by
            have : k = i.toNat := by omega
            subst this; rw [hx] at hy; cases hy; exact hxt)).symm
      · rw [if_neg (by simpa using hi), Option.bind_some]
        exact Ok.ret (decide_eq_false (hno fun k y hy hk => by have := (List.getElem?_eq_some_iff.1 hy).1; omega)).symm
  obtain ⟨r, h1, h2⟩ := key
  exact ⟨r.1, by rw [h1, ← h2]⟩
end Go.Pw
/-
  Which operators keep a group balanced, in plain Lean: the reference's word.
-/
set_option maxHeartbeats 4000000
namespace Go.Pw
theorem dT {p : Prop} {i : Decidable p} (h : p) : @decide p i = true := decide_eq_true h
theorem dF {p : Prop} {i : Decidable p} (h : ¬ p) : @decide p i = false := decide_eq_false h
open Classical in
theorem ctl_forI {α S R β : Type} {xs : List α} {B : Nat → S → Option (Ctl S R)} {r : R} {s : S} {kr : R → Option β} {k : S → Option β} (p : Nat → α → Prop) (h : ∀ i x, xs[i]? = some x → B i s = some (if decide (p i x) then .next s else .ret r)) :
    ctl (forC B xs.length 0 s) kr k = if (∀ i x, xs[i]? = some x → p i x) then k s else kr r := by
  have key : ∀ (n i : Nat), i + n = xs.length → forC B n i s = some (if (∀ j x, i ≤ j → xs[j]? = some x → p j x) then .next s else .ret r) := by
    intro n
    induction n with
    | zero => intro i hi; rw [forC, if_pos]; intro j x hj hx; have := (List.getElem?_eq_some_iff.1 hx).1; omega
    | succ n ih =>
      intro i hi
      obtain ⟨x, hx⟩ := get_len (xs := xs) (i := i) (by omega)
      rw [forC, h i x hx]
      by_cases hp : p i x
      · rw [dT hp]
        simp only [if_true]
        rw [ih (i + 1) (by omega)]
        by_cases hall : ∀ j x, i + 1 ≤ j → xs[j]? = some x → p j x
        · rw [if_pos hall, if_pos]
          intro j y hj hy
          by_cases e : j = i
          · subst e; rw [hx] at hy; cases hy; exact hp
          · exact hall j y (by omega) hy
        · rw [if_neg hall, if_neg (fun q => hall fun j y hj hy => q j y (by omega) hy)]
      · rw [dF hp, if_neg (c := ∀ j x, i ≤ j → xs[j]? = some x → p j x) (fun q => hp (q i x (Nat.le_refl _) hx))]
        rfl
  rw [key xs.length 0 (by omega)]
  by_cases hall : ∀ i x, xs[i]? = some x → p i x
  · rw [if_pos hall, if_pos (fun j x _ hx => hall j x hx)]; rfl
  · rw [if_neg hall, if_neg (fun q => hall fun j x hx => q j x (by omega) hx)]; rfl
def Con (o : GOp) (d : List GChange) (b : Int) (g : List Int) : Prop := ∀ x ∈ posL o d b g, x ∉ negL o d b g
def AddIn (g : List Int) (c : GChange) : Prop := c.Add = true ∧ c.Atom ∈ g
def PairOK (o : GOp) (g : List Int) (c d : GChange) : Prop := ∀ b ∈ -1 :: g, ¬ Con o [c, d] b g
def OneOK (o : GOp) (g : List Int) (c : GChange) : Prop := ∀ y ∈ g, y ≠ c.Atom → Con o [c] y g → ∃ e ∈ o.Changes, Del y (posL o [c] y g) (negL o [c] y g) e
def KeepsG (o : GOp) (g : List Int) : Prop := ∀ c ∈ o.Changes, AddIn g c → (∀ d ∈ o.Changes, AddIn g d → d.Atom ≠ c.Atom → PairOK o g c d) ∧ OneOK o g c
/-- Sizes of an operator. -/
structure OpS (o : GOp) : Prop where
  pp : o.Pre.Pos.length ≤ 5000
  pn : o.Pre.Neg.length ≤ 5000
  cp : ∀ c ∈ o.Changes, c.When.Pos.length ≤ 5000
  cn : ∀ c ∈ o.Changes, c.When.Neg.length ≤ 5000
  okp : OkC o.Pre
  okc : ∀ c ∈ o.Changes, OkC c.When
  nch : o.Changes.length ≤ 5000
end Go.Pw
/-
  Which operators keep a group balanced, in plain Lean: the program's word is the reference's.
-/
set_option maxHeartbeats 4000000
namespace Go.Pw
theorem pos_iff {o : GOp} {d : List GChange} {b : Int} {g : List Int} (hb : b = -1 ∨ b ∈ g) (h0 : ∀ x ∈ g, 0 ≤ x) {x : Int} : x ∈ posP o d b ↔ x ∈ posL o d b g := by
  unfold posP posL
  rw [List.mem_append, List.mem_append (t := g.filter _), List.mem_filter]
  refine or_congr Iff.rfl ?_
  rcases hb with hb | hb
  · subst hb
    rw [if_neg (by omega)]
    constructor
    · intro h; cases h
    · rintro ⟨h1, h2⟩
      have := h0 x h1
      have := of_decide_eq_true h2
      omega
  · rw [if_pos (h0 b hb), List.mem_singleton]
    constructor
    · rintro rfl; exact ⟨hb, by simp⟩
    · rintro ⟨_, h2⟩; exact of_decide_eq_true h2
theorem con_iff {o : GOp} {d : List GChange} {b : Int} {g : List Int} (hb : b = -1 ∨ b ∈ g) (h0 : ∀ x ∈ g, 0 ≤ x) : (∀ x ∈ posP o d b, x ∉ negL o d b g) ↔ Con o d b g :=
  ⟨fun q x hx => q x ((pos_iff hb h0).2 hx), fun q x hx => q x ((pos_iff hb h0).1 hx)⟩
theorem del_congr {y : Int} {P P' N : List Int} {c : GChange} (h : ∀ x, x ∈ P ↔ x ∈ P') : Del y P N c ↔ Del y P' N c :=
  ⟨fun ⟨a, b, d, e, f⟩ => ⟨a, b, d, fun x hx => (h x).1 (e x hx), f⟩, fun ⟨a, b, d, e, f⟩ => ⟨a, b, d, fun x hx => (h x).2 (e x hx), f⟩⟩
theorem con_swap {o : GOp} {c d : GChange} {b : Int} {g : List Int} (h : Con o [c, d] b g) : Con o [d, c] b g := by
  intro x hx hn
  refine h x ?_ ?_
  · unfold posL at hx ⊢
    simp only [List.mem_append, List.flatMap_cons, List.flatMap_nil, List.append_nil] at hx ⊢
    rcases hx with (h | h | h) | h <;> simp [h]
  · unfold negL at hn ⊢
    simp only [List.mem_append, List.flatMap_cons, List.flatMap_nil, List.append_nil] at hn ⊢
    rcases hn with (h | h | h) | h <;> simp [h]
theorem pair_swap {o : GOp} {g : List Int} {c d : GChange} (h : PairOK o g c d) : PairOK o g d c := fun b hb q => h b hb (con_swap q)
theorem adds_loop {g : List Int} (hg : g.Pairwise (· < ·)) (hn : g.length ≤ 5000) (l : List GChange) : ∀ (xs pre acc : List GChange), l = pre ++ xs → acc.length + xs.length ≤ 5000 →
    forS (fun i100 => fun (adds100 : (List GChange)) => (idx l (i100 : Int)).bind fun x100 =>
  (slices_BinarySearch_int_p g x100.Atom).bind <| un2 fun (y100 : Int) (y101 : Bool) =>
  (if (y101 && x100.Add) then ((app 88 adds100 [x100]).bind fun l100 =>
  some l100)
  else (some adds100)).bind (fun (l101 : (List GChange)) => some l101)) xs.length pre.length acc = some (acc ++ xs.filter (fun c => decide (c.Atom ∈ g) && c.Add))
  | [], pre, acc, _, _ => by simp [forS]
  | x :: xs, pre, acc, e, hl => by
    rw [List.length_cons] at hl
    have hx : l[pre.length]? = some x := by rw [e, List.getElem?_append_right (Nat.le_refl _)]; simp
    obtain ⟨i, hi⟩ := bs_asc (t := x.Atom) hg (by omega)
    rw [List.length_cons]
    by_cases h : (decide (x.Atom ∈ g) && x.Add) = true
    · refine forS_s (acc ++ [x]) ?_ ?_
      · simp only [idx_nat, hx, Option.bind_some]
        rw [hi, Option.bind_some]
        simp only [un2]
        rw [if_pos h, app_ok (by simp; omega)]; rfl
      · have := adds_loop hg hn l xs (pre ++ [x]) (acc ++ [x]) (by simp [e]) (by simp; omega)
        rw [List.length_append, List.length_singleton] at this
        rw [this, List.filter_cons_of_pos (p := fun (c : GChange) => decide (c.Atom ∈ g) && c.Add) h]
        simp
    · refine forS_s acc ?_ ?_
      · simp only [idx_nat, hx, Option.bind_some]
        rw [hi, Option.bind_some]
        simp only [un2]
        rw [if_neg h]; rfl
      · have := adds_loop hg hn l xs (pre ++ [x]) acc (by simp [e]) (by omega)
        rw [List.length_append, List.length_singleton] at this
        rw [this, List.filter_cons_of_neg (p := fun (c : GChange) => decide (c.Atom ∈ g) && c.Add) h]
theorem adds_mem {o : GOp} {g : List Int} {c : GChange} : c ∈ o.Changes.filter (fun c => decide (c.Atom ∈ g) && c.Add) ↔ c ∈ o.Changes ∧ AddIn g c := by
  rw [List.mem_filter, Bool.and_eq_true, decide_eq_true_iff]
  exact ⟨fun ⟨a, b, d⟩ => ⟨a, d, b⟩, fun ⟨a, d, b⟩ => ⟨a, b, d⟩⟩
theorem keepsG_iff {o : GOp} {g : List Int} {l : List GChange} (hl : ∀ c, c ∈ l ↔ c ∈ o.Changes ∧ AddIn g c) :
    (∀ (i : Nat) c, l[i]? = some c → (∀ d ∈ l.take i, c.Atom ≠ d.Atom → PairOK o g c d) ∧ OneOK o g c) ↔ KeepsG o g := by
  constructor
  · intro h c hc hA
    obtain ⟨i, hi, hic⟩ := List.getElem_of_mem ((hl c).2 ⟨hc, hA⟩)
    have hci : l[i]? = some c := by rw [List.getElem?_eq_getElem hi, hic]
    refine ⟨fun d hd hB hne => ?_, (h i c hci).2⟩
    obtain ⟨j, hj, hjd⟩ := List.getElem_of_mem ((hl d).2 ⟨hd, hB⟩)
    have hdj : l[j]? = some d := by rw [List.getElem?_eq_getElem hj, hjd]
    rcases Nat.lt_trichotomy i j with q | q | q
    · refine pair_swap ((h j d hdj).1 c ?_ hne)
      rw [List.mem_take_iff_getElem]
      exact ⟨i, by omega, hic⟩
    · subst q; rw [hci] at hdj; cases hdj; exact absurd rfl hne
    · refine (h i c hci).1 d ?_ (fun e => hne e.symm)
      rw [List.mem_take_iff_getElem]
      exact ⟨j, by omega, hjd⟩
  · intro h i c hc
    have hm := (hl c).1 (List.mem_of_getElem? hc)
    refine ⟨fun d hd hne => ?_, (h c hm.1 hm.2).2⟩
    have hdm := (hl d).1 (List.mem_of_mem_take hd)
    exact (h c hm.1 hm.2).1 d hdm.1 hdm.2 (fun e => hne e.symm)
open Classical in
theorem keeps_ok {o : GOp} {g : List Int} (ho : OpS o) (hp : g.Pairwise (· < ·)) (h0 : ∀ x ∈ g, 0 ≤ x) (hi : ∀ x ∈ g, i64ok x) (hg : g.length ≤ 5000) : invariant_keeps_p o g = some (decide (KeepsG o g)) := by
  have hm1 : i64ok (-1) := by unfold i64ok; decide
  have s2 : ∀ c ∈ o.Changes, ∀ d ∈ o.Changes, ∀ b, b = -1 ∨ b ∈ g → ∃ l, invariant_situation_p o [c, d] b g = some (decide (Con o [c, d] b g), l) := fun c hc d hd b hb => by
    have h1 := ho.cp c hc; have h2 := ho.cp d hd; have h3 := ho.cn c hc; have h4 := ho.cn d hd; have h5 := ho.pp; have h6 := ho.pn
    obtain ⟨mp, mn, e, _, _⟩ := sitP_ok (o := o) (d := [c, d]) (b := b) (g := g) ho.okp (fun x hx => by
      rcases List.mem_cons.1 hx with rfl | hx
      · exact ho.okc _ hc
      · rw [List.mem_singleton] at hx; subst hx; exact ho.okc _ hd) (hb.elim (fun e => e ▸ hm1) (hi b)) hi (by simp; omega) (by simp; omega) (by omega)
    refine ⟨⟨mp, mn⟩, ?_⟩
    rw [e, decide_eq_decide.2 (con_iff hb h0)]
  have s1 : ∀ c ∈ o.Changes, ∀ b ∈ g, ∃ mp mn, invariant_situation_p o [c] b g = some (decide (Con o [c] b g), ⟨mp, mn⟩) ∧ Keys mp (posP o [c] b) ∧ Keys mn (negL o [c] b g) := fun c hc b hb => by
    have h1 := ho.cp c hc; have h3 := ho.cn c hc; have h5 := ho.pp; have h6 := ho.pn
    obtain ⟨mp, mn, e, k1, k2⟩ := sitP_ok (o := o) (d := [c]) (b := b) (g := g) ho.okp (fun x hx => by
      rw [List.mem_singleton] at hx; subst hx; exact ho.okc _ hc) (hi b hb) hi (by simp; omega) (by simp; omega) (by omega)
    refine ⟨mp, mn, ?_, k1, k2⟩
    rw [e, decide_eq_decide.2 (con_iff (.inr hb) h0)]
  have hadd := adds_loop hp hg o.Changes o.Changes [] [] rfl (by have := ho.nch; simp; omega)
  simp only [List.length_nil, List.nil_append] at hadd
  have hmem : ∀ c, c ∈ o.Changes.filter (fun c => decide (c.Atom ∈ g) && c.Add) ↔ c ∈ o.Changes ∧ AddIn g c := fun c => adds_mem
  generalize o.Changes.filter (fun c => decide (c.Atom ∈ g) && c.Add) = A at hadd hmem
  unfold invariant_keeps_p
  refine at_eq A hadd ?_
  rw [ctl_forI (xs := A) (r := false) (s := (A, A)) (fun i c => (∀ d ∈ A.take i, c.Atom ≠ d.Atom → PairOK o g c d) ∧ OneOK o g c)]
  · by_cases h : KeepsG o g
    · rw [dT h]; exact if_pos ((keepsG_iff hmem).2 h)
    · rw [dF h]; exact if_neg (fun q => h ((keepsG_iff hmem).1 q))
  · intro i c hc
    have hcm := ((hmem c).1 (List.mem_of_getElem? hc)).1
    have hlen := (List.getElem?_eq_some_iff.1 hc).1
    simp only [un2]
    rw [idx_nat, hc, Option.bind_some]
    have hcut : cut A 0 (i : Int) = some (A.take i) := by
      unfold cut
      rw [if_pos ⟨by omega, by omega, by omega⟩]
      simp
    rw [hcut, Option.bind_some]
    rw [ctl_forP (xs := A.take i) (r := false) (fun d => c.Atom ≠ d.Atom → PairOK o g c d)]
    · by_cases h1 : ∀ d ∈ A.take i, c.Atom ≠ d.Atom → PairOK o g c d
      · rw [if_pos h1, ctl_forP (xs := g) (r := false) (fun y => y ≠ c.Atom → Con o [c] y g → ∃ e ∈ o.Changes, Del y (posL o [c] y g) (negL o [c] y g) e)]
        · by_cases h2 : ∀ y ∈ g, y ≠ c.Atom → Con o [c] y g → ∃ e ∈ o.Changes, Del y (posL o [c] y g) (negL o [c] y g) e
          · rw [if_pos h2, dT ⟨h1, h2⟩]; rfl
          · rw [if_neg h2, dF (fun q => h2 q.2)]; rfl
        · intro j y hy
          have hym := List.mem_of_getElem? hy
          rw [idx_nat, hy, Option.bind_some]
          by_cases e : y = c.Atom
          · rw [if_pos (decide_eq_true e), dT (fun q => absurd e q)]; rfl
          · obtain ⟨mp, mn, e1, k1, k2⟩ := s1 c hcm y hym
            rw [if_neg (by simpa using e), e1, Option.bind_some]
            simp only [un2]
            by_cases hC : Con o [c] y g
            · rw [if_pos (dT hC), deletes_ok k1 k2 ho.okc, Option.bind_some, Option.bind_some]
              have hd : (∃ e ∈ o.Changes, Del y (posP o [c] y) (negL o [c] y g) e) ↔ ∃ e ∈ o.Changes, Del y (posL o [c] y g) (negL o [c] y g) e :=
                ⟨fun ⟨e, he, hD⟩ => ⟨e, he, (del_congr (fun x => pos_iff (.inr hym) h0)).1 hD⟩, fun ⟨e, he, hD⟩ => ⟨e, he, (del_congr (fun x => pos_iff (.inr hym) h0)).2 hD⟩⟩
              by_cases hD : ∃ e ∈ o.Changes, Del y (posL o [c] y g) (negL o [c] y g) e
              · rw [dT (hd.2 hD), dT (fun _ _ => hD)]; rfl
              · rw [dF (fun q => hD (hd.1 q)), dF (fun q => hD (q e hC))]; rfl
            · rw [if_neg (by simpa using hC), Option.bind_some, dT (fun _ q => absurd q hC)]; rfl
      · rw [if_neg h1, dF (fun q => h1 q.1)]; rfl
    · intro j d hd
      have hdm := ((hmem d).1 (List.mem_of_mem_take (List.mem_of_getElem? hd))).1
      rw [idx_nat, hd, Option.bind_some]
      by_cases e : c.Atom = d.Atom
      · rw [if_pos (decide_eq_true e), dT (fun q => absurd e q)]; rfl
      · rw [if_neg (by simpa using e), app_ok (by simp; omega), Option.bind_some]
        rw [ctl_forP (xs := [-1] ++ g) (r := false) (fun b => ¬ Con o [c, d] b g)]
        · by_cases hP : PairOK o g c d
          · rw [dT (fun _ => hP)]; exact if_pos hP
          · rw [dF (fun q => hP (q e))]; exact if_neg hP
        · intro k b hb
          have hbm : b = -1 ∨ b ∈ g := by
            have := List.mem_of_getElem? hb
            rw [List.mem_append, List.mem_singleton] at this
            exact this
          obtain ⟨l, e1⟩ := s2 c hcm d hdm b hbm
          rw [idx_nat, hb, Option.bind_some, e1, Option.bind_some]
          simp only [un2]
          by_cases hC : Con o [c, d] b g
          · rw [if_pos (dT hC), dF (fun q => q hC)]; rfl
          · rw [if_neg (by simpa using hC), dT hC]; rfl
end Go.Pw
/-
  Which groups are balanced, in plain Lean: the program's word.
-/
set_option maxHeartbeats 4000000
namespace Go.Pw
def cnt (T g : List Int) : Nat → Nat
  | 0 => 0
  | j + 1 => cnt T g j + (if g.getD j 0 ∈ T ∧ g.getD j 0 ∉ g.take j then 1 else 0)
theorem cnt_le (T g : List Int) : ∀ j, cnt T g j ≤ j
  | 0 => Nat.le_refl _
  | j + 1 => by have := cnt_le T g j; unfold cnt; split <;> omega
theorem take_snoc {α : Type} {g : List α} {j : Nat} {x : α} (hx : g[j]? = some x) : g.take (j + 1) = g.take j ++ [x] := by
  rw [List.take_add_one, hx]; rfl
theorem getD_at {g : List Int} {j : Nat} {x : Int} (hx : g[j]? = some x) : g.getD j 0 = x := by
  rw [List.getD_eq_getElem?_getD, hx]; rfl
theorem index_ok (T : List Int) (x : Int) : ∀ (n i : Nat), i + n = T.length → ∃ r, forC (R := Int) (fun i100 => fun (_ : Unit) => (idx T (i100 : Int)).bind fun x100 =>
    if decide (x = x100) then (some (Ctl.ret (i100 : Int)))
    else (some (Ctl.next ()))) n i () = some r ∧ ((∃ k : Int, r = .ret k ∧ 0 ≤ k ∧ x ∈ T.drop i) ∨ (r = .next () ∧ x ∉ T.drop i))
  | 0, i, h => ⟨_, rfl, .inr ⟨rfl, by rw [List.drop_of_length_le (by omega)]; simp⟩⟩
  | n + 1, i, h => by
    have hi : i < T.length := by omega
    rw [forC, idx_nat, List.getElem?_eq_getElem hi, Option.bind_some, List.drop_eq_getElem_cons hi]
    by_cases hx : x = T[i]
    · rw [if_pos (by simpa using hx)]
      exact ⟨_, rfl, .inl ⟨_, rfl, by omega, by rw [hx]; exact List.mem_cons_self ..⟩⟩
    · rw [if_neg (by simpa using hx)]
      obtain ⟨r, h1, h2⟩ := index_ok T x n (i + 1) (by omega)
      refine ⟨r, h1, ?_⟩
      rcases h2 with ⟨k, h3, h4, h5⟩ | ⟨h3, h4⟩
      · exact .inl ⟨k, h3, h4, List.mem_cons_of_mem _ h5⟩
      · exact .inr ⟨h3, by rw [List.mem_cons]; exact fun e => e.elim hx h4⟩
theorem contains_ok (T : List Int) (x : Int) : slices_Contains_int_p T x = some (decide (x ∈ T)) := by
  unfold slices_Contains_int_p slices_Index_int_p
  obtain ⟨r, h1, h2⟩ := index_ok T x T.length 0 (by omega)
  rw [h1]
  rw [List.drop_zero] at h2
  rcases h2 with ⟨k, rfl, h4, h5⟩ | ⟨rfl, h4⟩
  · show some (decide ((0 : Int) ≤ k)) = _
    simp [h4, h5]
  · show some (decide ((0 : Int) ≤ -1)) = _
    simp [h4]
theorem holds_ok {T V g : List Int} (hg : ∀ x ∈ g, i64ok x) (hl : g.length ≤ 1000) : invariant_Holds_p ⟨T, V⟩ g = some (decide (cnt T g g.length ≤ 1)) := by
  unfold invariant_Holds_p
  apply Ok.eq
  refine Ok.bind (Ok.forS (fun j (l : BMap) => (∀ a, (bget l a).isSome = true ↔ a ∈ g.take j ∧ a ∈ T) ∧ l.length = cnt T g j) ⟨fun a => by simp [bget], rfl⟩ ?_ ?_)
  · rintro j l hj ⟨h1, h2⟩
    obtain ⟨x, hx⟩ : ∃ x, g[j]? = some x := ⟨g[j], List.getElem?_eq_getElem hj⟩
    have hc := cnt_le T g j
    have hd := getD_at hx
    have ht := take_snoc hx
    have hmem : x ∈ g := List.mem_of_getElem? hx
    rw [idx_nat, hx, Option.bind_some, contains_ok, Option.bind_some]
    by_cases hT : x ∈ T
    · rw [if_pos (by simpa using hT)]
      unfold bmapPut
      rw [if_pos ⟨hg x hmem, by unfold maxLen; omega⟩]
      refine Ok.ret ⟨fun a => ?_, ?_⟩
      · rw [bget_put, ht, List.mem_append, List.mem_singleton]
        by_cases e : x = a
        · subst e; simp [hT]
        · rw [if_neg e, h1]
          have e2 : ¬ a = x := fun q => e q.symm
          simp [e2]
      · rw [bput_length, h2, cnt, hd]
        have h3 := h1 x
        by_cases hs : x ∈ g.take j
        · rw [if_pos (h3.2 ⟨hs, hT⟩), if_neg (fun q => q.2 hs)]; rfl
        · rw [if_neg (fun q => hs (h3.1 q).1), if_pos ⟨hT, hs⟩]
    · rw [if_neg (by simpa using hT)]
      refine Ok.ret ⟨fun a => ?_, ?_⟩
      · rw [h1, ht, List.mem_append, List.mem_singleton]
        by_cases e : a = x
        · subst e; simp [hT]
        · simp [e]
      · rw [h2, cnt, hd, if_neg (fun q => hT q.1)]; rfl
  · rintro l ⟨_, h2⟩
    refine Ok.ret ?_
    rw [h2]
    congr 1
    exact propext ⟨fun h => by omega, fun h => by omega⟩
theorem Asc.len_le {l : List Int} {n : Nat} (h : Asc l (n : Int)) : l.length ≤ n := by
  have key : ∀ (i : Nat) (x : Int), l[i]? = some x → (i : Int) ≤ x := by
    intro i
    induction i with
    | zero => intro x hx; exact (h 0 x hx).1
    | succ i ih =>
      intro x hx
      obtain ⟨y, hy⟩ := get_len (xs := l) (i := i) (by have := (List.getElem?_eq_some_iff.1 hx).1; omega)
      have h1 := (h (i + 1) x hx).2.2 y (by omega) (by simpa using hy)
      have h2 := ih y hy
      omega
  by_cases h0 : l.length = 0
  · omega
  · obtain ⟨x, hx⟩ := get_len (xs := l) (i := l.length - 1) (by omega)
    have h1 := key _ _ hx
    have h2 := (h _ x hx).2.1
    omega
theorem Asc.rng {l : List Int} {n : Int} (h : Asc l n) {x : Int} (hx : x ∈ l) : 0 ≤ x ∧ x < n := by
  obtain ⟨i, hi, rfl⟩ := List.getElem_of_mem hx
  have := h i _ (List.getElem?_eq_getElem hi)
  exact ⟨this.1, this.2.1⟩
theorem Asc.pw {l : List Int} {n : Int} (h : Asc l n) : l.Pairwise (· < ·) := by
  have key : ∀ (d i : Nat) (x y : Int), l[i]? = some x → l[i + d + 1]? = some y → x < y := by
    intro d
    induction d with
    | zero => intro i x y hx hy; exact (h (i + 1) y hy).2.2 x (by omega) hx
    | succ d ih =>
      intro i x y hx hy
      obtain ⟨z, hz⟩ := get_len (xs := l) (i := i + d + 1) (by have := (List.getElem?_eq_some_iff.1 hy).1; omega)
      have h1 := ih i x z hx hz
      have h2 := (h (i + (d + 1) + 1) y hy).2.2 z (by omega) hz
      omega
  refine List.pairwise_iff_getElem.2 fun i j hi hj hij => ?_
  obtain ⟨d, rfl⟩ : ∃ d, j = i + d + 1 := ⟨j - i - 1, by omega⟩
  exact key d i _ _ (List.getElem?_eq_getElem hi) (List.getElem?_eq_getElem hj)
theorem Asc.ok {l : List Int} {n : Nat} (h : Asc l (n : Int)) (hn : n ≤ 4096) : ∀ x ∈ l, i64ok x := fun x hx => by
  have := h.rng hx
  unfold i64ok
  omega
theorem opS_of {na nf : Int} {o : GOp} (hna : na ≤ 4096) (h : GOpOK na nf o) : OpS o := by
  have key : ∀ {l : List Int}, Asc l na → l.length ≤ 5000 ∧ ∀ x ∈ l, i64ok x := fun {l} hl => by
    by_cases h0 : 0 ≤ na
    · obtain ⟨n, rfl⟩ : ∃ n : Nat, na = (n : Int) := ⟨na.toNat, by omega⟩
      exact ⟨by have := hl.len_le; omega, hl.ok (by omega)⟩
    · have : l = [] := by
        cases l with
        | nil => rfl
        | cons x l => have := hl.rng (List.mem_cons_self ..); omega
      subst this
      exact ⟨by simp, fun x hx => by cases hx⟩
  exact ⟨(key h.pre.p).1, (key h.pre.n).1, fun c hc => (key (h.chg c hc).w.p).1, fun c hc => (key (h.chg c hc).w.n).1, ⟨(key h.pre.p).2, (key h.pre.n).2⟩, fun c hc => ⟨(key (h.chg c hc).w.p).2, (key (h.chg c hc).w.n).2⟩, by have := h.nc; omega⟩
def BalG (g : Ground) (l : List Int) : Prop := Asc l (g.Atoms.length : Int) ∧ cnt g.Init l l.length ≤ 1 ∧ ∀ o ∈ g.Ops, KeepsG o l
open Classical in
theorem balanced_ok {g : Ground} {l : List Int} (hv : ValidG g) (hl : l.length ≤ 1000) : invariant_balanced_p g l = some (decide (BalG g l)) := by
  have hna := hv.a
  unfold invariant_balanced_p
  rw [ctl_forI (xs := l) (r := false) (s := ()) (fun i _ => AscAt l (g.Atoms.length : Int) i)]
  · by_cases ha : Asc l (g.Atoms.length : Int)
    · rw [if_pos (fun i x hx => ha i), holds_ok (ha.ok hna) hl, Option.bind_some]
      by_cases hc : cnt g.Init l l.length ≤ 1
      · rw [if_neg (by simpa using hc)]
        rw [ctl_forP (xs := g.Ops) (r := false) (fun o => KeepsG o l)]
        · by_cases hk : ∀ o ∈ g.Ops, KeepsG o l
          · rw [if_pos hk, dT (show BalG g l from ⟨ha, hc, hk⟩)]
          · rw [if_neg hk, dF (fun q : BalG g l => hk q.2.2)]
        · intro i o ho
          rw [idx_nat, ho, Option.bind_some, keeps_ok (opS_of (by omega) (hv.op o (List.mem_of_getElem? ho))) ha.pw (fun x hx => (ha.rng hx).1) (ha.ok hna) (by omega), Option.bind_some]
          by_cases hk : KeepsG o l
          · rw [dT hk]; rfl
          · rw [dF hk]; rfl
      · rw [if_pos (by simpa using hc), dF (fun q : BalG g l => hc q.2.1)]
    · rw [if_neg, dF (fun q : BalG g l => ha q.1)]
      intro q
      exact ha fun i x hx => q i x hx x hx
  · intro i x hx
    rw [idx_nat, hx, Option.bind_some, asc_body (by omega) hx, Option.bind_some]
    by_cases h : AscAt l (g.Atoms.length : Int) i
    · rw [dT h]; rfl
    · rw [dF h]; rfl
end Go.Pw
/-
  Balanced accepts exactly the balanced groups, in plain Lean.
-/
set_option maxHeartbeats 4000000
namespace Go.Pw
def FewG (g : Ground) : Prop := g.Atoms.length ≤ 14 ∧ g.Ops.length ≤ 8 ∧ g.Fluents.length ≤ 3 ∧ g.Goal.length ≤ 4 ∧ (∀ a ∈ g.Atoms, a.Args.length ≤ 20) ∧ (∀ o ∈ g.Ops, o.Changes.length ≤ 10) ∧ ValidG g
open Classical in
theorem few_ok {fu : Nat} {g : Ground} (hl : LenG g) (hs : SizeOf.sizeOf g ≤ fu) : law20_few_p fu g = some (decide (FewG g)) := by
  unfold law20_few_p
  rw [valid_ok hl hs]
  by_cases h1 : g.Atoms.length ≤ 14 ∧ g.Ops.length ≤ 8 ∧ g.Fluents.length ≤ 3 ∧ g.Goal.length ≤ 4
  · obtain ⟨a1, a2, a3, a4⟩ := h1
    rw [if_neg (by simp; omega)]
    rw [ctl_forP (xs := g.Atoms) (r := false) (fun a => a.Args.length ≤ 20)]
    · by_cases h2 : ∀ a ∈ g.Atoms, a.Args.length ≤ 20
      · rw [if_pos h2, ctl_forP (xs := g.Ops) (r := false) (fun o => o.Changes.length ≤ 10)]
        · by_cases h3 : ∀ o ∈ g.Ops, o.Changes.length ≤ 10
          · rw [if_pos h3, Option.bind_some]
            congr 1
            rw [decide_eq_decide]
            exact ⟨fun q => ⟨a1, a2, a3, a4, h2, h3, q⟩, fun q => q.2.2.2.2.2.2⟩
          · rw [if_neg h3, dF (fun q : FewG g => h3 q.2.2.2.2.2.1)]
        · intro i o ho
          rw [idx_nat, ho, Option.bind_some]
          by_cases h : o.Changes.length ≤ 10
          · rw [if_neg (by simp; omega), dT h]; rfl
          · rw [if_pos (by simp; omega), dF h]; rfl
      · rw [if_neg h2, dF (fun q : FewG g => h2 q.2.2.2.2.1)]
    · intro i a ha
      rw [idx_nat, ha, Option.bind_some]
      by_cases h : a.Args.length ≤ 20
      · rw [if_neg (by simp; omega), dT h]; rfl
      · rw [if_pos (by simp; omega), dF h]; rfl
  · rw [if_pos (by simp; omega), dF (fun q : FewG g => h1 ⟨q.1, q.2.1, q.2.2.1, q.2.2.2.1⟩)]
end Go.Pw
