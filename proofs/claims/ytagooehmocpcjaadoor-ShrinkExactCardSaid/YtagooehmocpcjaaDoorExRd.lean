/-
  The classes of labels, in plain Lean: what the program computes.
-/
import Derived.Test.YtagooehmocpcjaaDoorExNu
import Derived.Test.YtagooehmocpcjaaDoorExR0
import Derived.Test.YtagooehmocpcjaaDoorExBi
set_option maxHeartbeats 4000000
set_option maxRecDepth 100000
set_option linter.unusedSimpArgs false
set_option linter.unusedVariables false
namespace Go.Pw
theorem Equal_eq' (xs ys : List Int) : slices_Equal___int_int__p xs ys = some (decide (xs = ys)) := ints_gen xs ys
abbrev by8 (l : List UInt8) : List Int := l.map fun c => (c.toNat : Int)
def pairsOf (x : System) (l m : Nat) : List (Nat × Nat) := ((x.Edges.take m).filter fun d => decide (d.Label = (l : Int))).map fun d => (d.From.toNat, d.To.toNat)
def blocksOf (list : List System) (k : Int) (l i : Nat) : List (List (Nat × Nat)) := (List.range i).flatMap fun j : Nat => if (j : Int) = k then [] else match list[j]? with
  | some x => [pairsOf x l x.Edges.length]
  | none => []
theorem blocksOf_succ {list : List System} {k : Int} {l i : Nat} {x : System} (hx : list[i]? = some x) : blocksOf list k l (i + 1) = blocksOf list k l i ++ (if (i : Int) = k then [] else [pairsOf x l x.Edges.length]) := by
  unfold blocksOf
  rw [List.range_succ, List.flatMap_append]
  simp [hx]
/-- What is known of the systems of a list. -/
structure LOK (list : List System) (cs : List Int) : Prop where
  v : ∀ x ∈ list, VSys x
  s : ∀ x ∈ list, x.States ≤ 100
  e : ∀ x ∈ list, x.Edges.length ≤ 80
  c : ∀ x ∈ list, x.Costs = cs
  n : list.length ≤ 4
theorem pairsOf_len (x : System) (l m : Nat) : (pairsOf x l m).length ≤ x.Edges.length := by
  unfold pairsOf
  rw [List.length_map]
  refine Nat.le_trans (List.length_filter_le _ _) ?_
  simp; omega
theorem pairsOf_lt {x : System} (hv : VSys x) (hs : x.States ≤ 100) {l m : Nat} : ∀ p ∈ pairsOf x l m, p.1 < 100 ∧ p.2 < 100 := by
  intro p hp
  unfold pairsOf at hp
  obtain ⟨d, hd, rfl⟩ := List.mem_map.1 hp
  have := hv.edge d (List.mem_of_mem_take (List.mem_filter.1 hd).1)
  simp only
  omega
theorem blocksOf_ok {list : List System} {cs : List Int} (h : LOK list cs) {k : Int} {l : Nat} : ∀ i, i ≤ list.length → (blocksOf list k l i).length ≤ i ∧ ∀ b ∈ blocksOf list k l i, (∀ p ∈ b, p.1 < 100 ∧ p.2 < 100) ∧ b.length ≤ 80 := by
  intro i
  induction i with
  | zero => intro _; simp [blocksOf]
  | succ i ih =>
    intro hi
    obtain ⟨x, hx⟩ := get_some (show i < list.length by omega)
    have hxm := List.mem_of_getElem? hx
    obtain ⟨h1, h2⟩ := ih (by omega)
    rw [blocksOf_succ hx]
    by_cases e : (i : Int) = k
    · rw [if_pos e, List.append_nil]; exact ⟨by omega, h2⟩
    · rw [if_neg e]
      refine ⟨by simp; omega, fun b hb => ?_⟩
      rcases List.mem_append.1 hb with hb | hb
      · exact h2 b hb
      · simp only [List.mem_singleton] at hb
        subst hb
        exact ⟨pairsOf_lt (h.v x hxm) (h.s x hxm), Nat.le_trans (pairsOf_len x l _) (h.e x hxm)⟩
theorem labelT_len {list : List System} {cs : List Int} (h : LOK list cs) {k : Int} {l i c : Nat} (hi : i ≤ list.length) (hc : c < 10000000) : (labelT c (blocksOf list k l i)).length ≤ 2000 := by
  obtain ⟨h1, h2⟩ := blocksOf_ok h (k := k) (l := l) i hi
  have h3 := blocksT_len _ h2
  have h4 := dec_len (n := c) (by omega)
  have h5 := h.n
  have h6 : (blocksOf list k l i).length * (2 + 80 * 6) ≤ 4 * (2 + 80 * 6) := Nat.mul_le_mul_right _ (by omega)
  unfold labelT
  rw [List.length_append]
  omega
theorem bldW_ok {oss : List (Option (List Int))} {l : Nat} {u v : List UInt8} (h : oss[l]? = some (some (by8 u))) (hl : u.length + v.length ≤ 1000000) : bldW oss (l : Int) ⟨v.toArray⟩ = some (oss.set l (some (by8 (u ++ v)))) := by
  unfold bldW
  rw [idx_nat, h]
  simp only [Option.bind_some]
  rw [appS_bytes (by omega)]
  simp
/-- Labels that are alike in all systems but one, and of one cost. -/
def redR (list : List System) (cs : List Int) (k : Int) : Rel := fun a b => cs[a]? = cs[b]? ∧ ∀ (i : Nat) (x : System), list[i]? = some x → (i : Int) ≠ k → pairsOf x a x.Edges.length = pairsOf x b x.Edges.length
theorem blocksOf_iff {list : List System} {k : Int} {a b : Nat} : ∀ i, i ≤ list.length → (blocksOf list k a i = blocksOf list k b i ↔ ∀ (j : Nat) (x : System), j < i → list[j]? = some x → (j : Int) ≠ k → pairsOf x a x.Edges.length = pairsOf x b x.Edges.length) := by
  intro i
  induction i with
  | zero => intro _; simp [blocksOf]
  | succ i ih =>
    intro hi
    obtain ⟨x, hx⟩ := get_some (show i < list.length by omega)
    have ih := ih (by omega)
    have hlen : ∀ a b : Nat, (blocksOf list k a i).length = (blocksOf list k b i).length := by
      intro a b
      have : ∀ n, (blocksOf list k a n).length = (blocksOf list k b n).length := by
        intro n
        unfold blocksOf
        simp only [List.length_flatMap]
        congr 1
        apply List.map_congr_left
        intro j _
        split
        · rfl
        · split <;> rfl
      exact this i
    rw [blocksOf_succ hx, blocksOf_succ hx]
    by_cases e : (i : Int) = k
    · rw [if_pos e, if_pos e, List.append_nil, List.append_nil, ih]
      constructor
      · intro h j y hj hy hjk
        by_cases ej : j = i
        · subst ej; exact absurd e hjk
        · exact h j y (by omega) hy hjk
      · intro h j y hj hy hjk
        exact h j y (by omega) hy hjk
    · rw [if_neg e, if_neg e]
      constructor
      · intro h j y hj hy hjk
        obtain ⟨h1, h2⟩ := List.append_inj h (hlen a b)
        by_cases ej : j = i
        · subst ej
          rw [hx] at hy; cases hy
          simpa using h2
        · exact (ih.1 h1) j y (by omega) hy hjk
      · intro h
        rw [ih.2 fun j y hj hy hjk => h j y (by omega) hy hjk, h i x (by omega) hx e]
theorem reduce_ok {list : List System} {cs : List Int} (h : LOK list cs) {k : Nat} (hk : k < list.length) (hcl : cs.length ≤ 100) : Ok (shrink_Reduce_p list (k : Int)) fun r => r.2 = none ∧ ClsL (redR list cs (k : Int)) cs.length r.1 := by
  unfold shrink_Reduce_p
  obtain ⟨x0, hx0⟩ := get_some (show 0 < list.length by omega)
  have hx0c := h.c x0 (List.mem_of_getElem? hx0)
  have hi0 : idx list 0 = some x0 := by rw [show (0 : Int) = ((0 : Nat) : Int) from rfl, idx_nat, hx0]
  rw [ctl_all (p := fun _ => true) (r := ([], some 2)) ?_]
  · rw [if_pos (by simp), if_neg (by simp; omega), hi0]
    simp only [Option.bind_some, hx0c]
    generalize hn : cs.length = n at hcl
    have hcost : ∀ l, l < n → ∃ c : Nat, cs[l]? = some (c : Int) ∧ c < 10000000 := by
      intro l hl
      obtain ⟨y, hy⟩ := get_some (show l < cs.length by omega)
      have := (h.v x0 (List.mem_of_getElem? hx0)).cost y (by rw [hx0c]; exact List.mem_of_getElem? hy)
      exact ⟨y.toNat, by rw [hy]; congr 1; omega, by omega⟩
    refine Ok.step (mk_ok (by omega) (by omega)) ?_
    simp only [List.length_replicate]
    refine Ok.step (mk_ok (by omega) (by omega)) (Ok.bind ?_)
    refine Ok.forS (fun m (oss : List (Option (List Int))) => oss.length = n ∧ (∀ l, l < m → ∃ c : Nat, cs[l]? = some (c : Int) ∧ oss[l]? = some (some (by8 (Lib.decDigits c)))) ∧ ∀ l, m ≤ l → l < n → oss[l]? = some (some [])) ⟨by simp, fun l h => absurd h (Nat.not_lt_zero _), fun l _ hl => by simp [hl]⟩ ?_ ?_
    · rintro m oss hm ⟨h1, h2, h3⟩
      obtain ⟨c, hc, hcb⟩ := hcost m (by omega)
      have hom := h3 m (Nat.le_refl _) (by omega)
      simp only [idx_nat, hc, hom, Option.bind_some]
      rw [itoa_gen (by omega)]
      simp only [Option.bind_some]
      rw [bldW_ok (u := []) hom (by have := dec_len (n := c) (by omega); simp; omega)]
      refine Ok.ret ⟨by simp [h1], fun l hl => ?_, fun l hl1 hl2 => by rw [List.getElem?_set_ne (by omega)]; exact h3 l (by omega) hl2⟩
      by_cases e : l = m
      · subst e; exact ⟨c, hc, by rw [List.getElem?_set_self (by omega)]; simp⟩
      · obtain ⟨c', a1, a2⟩ := h2 l (by omega)
        exact ⟨c', a1, by rw [List.getElem?_set_ne (Ne.symm e)]; exact a2⟩
    · rintro oss ⟨h1, h2, _⟩
      refine Ok.bind (Ok.forS (fun i (oss : List (Option (List Int))) => oss.length = n ∧ ∀ l, l < n → ∃ c : Nat, cs[l]? = some (c : Int) ∧ oss[l]? = some (some (by8 (labelT c (blocksOf list (k : Int) l i))))) ⟨h1, fun l hl => ?_⟩ ?_ ?_)
      · obtain ⟨c, a1, a2⟩ := h2 l hl
        exact ⟨c, a1, by rw [a2]; simp [labelT, blocksOf, blocksT]⟩
      · rintro i oss hi ⟨h1, h2⟩
        obtain ⟨x, hx⟩ := get_some hi
        have hxm := List.mem_of_getElem? hx
        have hxv := h.v x hxm
        simp only [idx_nat, hx, Option.bind_some]
        by_cases e : (i : Int) = (k : Int)
        · simp only [e, decide_true, if_true]
          refine Ok.ret ⟨h1, fun l hl => ?_⟩
          obtain ⟨c, a1, a2⟩ := h2 l hl
          exact ⟨c, a1, by rw [a2, blocksOf_succ hx, if_pos e, List.append_nil]⟩
        · simp only [e, decide_false, Bool.false_eq_true, if_false]
          refine Ok.must (by simp; omega) (Ok.bind ?_)
          have hnn : ((((n : Int)).toNat : Int)).toNat = n := by omega
          rw [hnn]
          refine Ok.forS (fun m (o : List (Option (List Int))) => o.length = n ∧ (∀ l, l < m → l < n → ∃ c : Nat, cs[l]? = some (c : Int) ∧ o[l]? = some (some (by8 (labelT c (blocksOf list (k : Int) l i) ++ [32, 124])))) ∧ ∀ l, m ≤ l → l < n → ∃ c : Nat, cs[l]? = some (c : Int) ∧ o[l]? = some (some (by8 (labelT c (blocksOf list (k : Int) l i))))) ⟨h1, fun l h => absurd h (Nat.not_lt_zero _), fun l _ hl => h2 l hl⟩ ?_ ?_
          · rintro m o hm ⟨b1, b2, b3⟩
            obtain ⟨c, c1, c2⟩ := b3 m (Nat.le_refl _) hm
            obtain ⟨c', c1', hcb⟩ := hcost m hm
            have : c = c' := by rw [c1] at c1'; simp at c1'; omega
            subst this
            have hlen := labelT_len h (k := (k : Int)) (l := m) (i := i) (c := c) (by omega) hcb
            simp only [idx_nat, c2, Option.bind_some]
            rw [show (⟨#[32, 124]⟩ : ByteArray) = ⟨([32, 124] : List UInt8).toArray⟩ from rfl, bldW_ok c2 (by simp; omega)]
            refine Ok.ret ⟨by simp [b1], fun l hl hln => ?_, fun l hl1 hl2 => ?_⟩
            · by_cases el : l = m
              · subst el; exact ⟨c, c1, by rw [List.getElem?_set_self (by omega)]⟩
              · obtain ⟨d, d1, d2⟩ := b2 l (by omega) hln
                exact ⟨d, d1, by rw [List.getElem?_set_ne (Ne.symm el)]; exact d2⟩
            · obtain ⟨d, d1, d2⟩ := b3 l (by omega) hl2
              exact ⟨d, d1, by rw [List.getElem?_set_ne (by omega)]; exact d2⟩
          · rintro o ⟨b1, b2, _⟩
            refine Ok.bind (Ok.forS (fun m (o : List (Option (List Int))) => o.length = n ∧ ∀ l, l < n → ∃ c : Nat, cs[l]? = some (c : Int) ∧ o[l]? = some (some (by8 (labelT c (blocksOf list (k : Int) l i) ++ [32, 124] ++ pairT (pairsOf x l m))))) ⟨b1, fun l hl => ?_⟩ ?_ ?_)
            · obtain ⟨c, c1, c2⟩ := b2 l hl hl
              exact ⟨c, c1, by rw [c2]; simp [pairsOf, pairT]⟩
            · rintro m o hm ⟨d1, d2⟩
              obtain ⟨d, hd⟩ := get_some hm
              obtain ⟨f, lb, t, rfl, hf, ht, hlb⟩ := edge_nat hxv (List.mem_of_getElem? hd)
              have hxs := h.s x hxm
              rw [h.c x hxm, hn] at hlb
              obtain ⟨c, c1, c2⟩ := d2 lb hlb
              obtain ⟨c', c1', hcb⟩ := hcost lb hlb
              have : c = c' := by rw [c1] at c1'; simp at c1'; omega
              subst this
              have hlen := labelT_len h (k := (k : Int)) (l := lb) (i := i) (c := c) (by omega) hcb
              have hpl := pairT_len (pairsOf x lb m) (pairsOf_lt hxv hxs)
              have hpl2 := pairsOf_len x lb m
              have hxe := h.e x hxm
              have hf1 : f < 100 := by omega
              have ht1 : t < 100 := by omega
              simp only [idx_nat, hd, c2, Option.bind_some, itoa_ok hf1, itoa_ok ht1]
              have e1 : itoaB f = ⟨(digs f).toArray⟩ := rfl
              have e2 : itoaB t = ⟨(digs t).toArray⟩ := rfl
              have g1 := digs_len hf1
              have g2 := digs_len ht1
              rw [e1, e2, show (⟨#[32]⟩ : ByteArray) = ⟨([32] : List UInt8).toArray⟩ from rfl, show (⟨#[58]⟩ : ByteArray) = ⟨([58] : List UInt8).toArray⟩ from rfl, cat_bytes (by simp; omega)]
              simp only [Option.bind_some]
              rw [cat_bytes (by simp; omega)]
              simp only [Option.bind_some]
              rw [cat_bytes (by simp; omega)]
              simp only [Option.bind_some]
              rw [bldW_ok c2 (by simp; omega)]
              refine Ok.ret ⟨by simp [d1], fun l hl => ?_⟩
              by_cases el : l = lb
              · subst el
                refine ⟨c, c1, ?_⟩
                rw [List.getElem?_set_self (by omega)]
                have : pairsOf x l (m + 1) = pairsOf x l m ++ [(f, t)] := by
                  unfold pairsOf
                  rw [List.take_add_one, hd]
                  simp [List.filter_append]
                rw [this, pairT_append]
                simp [pairT]
              · obtain ⟨c', a1, a2⟩ := d2 l hl
                refine ⟨c', a1, ?_⟩
                rw [List.getElem?_set_ne (Ne.symm el), a2]
                have : pairsOf x l (m + 1) = pairsOf x l m := by
                  unfold pairsOf
                  rw [List.take_add_one, hd]
                  have hne : ¬ ((lb : Int) = (l : Int)) := by omega
                  simp [List.filter_append, hne]
                rw [this]
            · rintro o ⟨d1, d2⟩
              refine Ok.ret ⟨d1, fun l hl => ?_⟩
              obtain ⟨c, c1, c2⟩ := d2 l hl
              refine ⟨c, c1, ?_⟩
              rw [c2, blocksOf_succ hx, if_neg e]
              unfold labelT
              rw [blocksT_append]
              simp [blocksT]
      · rintro oss ⟨h1, h2⟩
        refine Ok.must (by simp; omega) (Ok.bind ?_)
        have hnn : ((((n : Int)).toNat : Int)).toNat = n := by omega
        rw [hnn]
        refine Ok.forS (fun m (s : List ByteArray × List (Option (List Int))) => s.1.length = n ∧ s.2.length = n ∧ (∀ l, l < m → ∃ c : Nat, cs[l]? = some (c : Int) ∧ s.1[l]? = some ⟨(labelT c (blocksOf list (k : Int) l list.length)).toArray⟩) ∧ ∀ l, m ≤ l → l < n → ∃ c : Nat, cs[l]? = some (c : Int) ∧ s.2[l]? = some (some (by8 (labelT c (blocksOf list (k : Int) l list.length))))) ⟨by simp, h1, fun l h => absurd h (Nat.not_lt_zero _), fun l _ hl => h2 l hl⟩ ?_ ?_
        · rintro m ⟨T, o⟩ hm ⟨b1, b2, b3, b4⟩
          simp only at b1 b2 b3 b4
          obtain ⟨c, c1, c2⟩ := b4 m (Nat.le_refl _) hm
          obtain ⟨y, hy⟩ := get_some (show m < T.length by omega)
          have hS : bldS o (m : Int) = some (⟨(labelT c (blocksOf list (k : Int) m list.length)).toArray⟩, o.set m none) := by
            unfold bldS
            rw [idx_nat, c2]
            simp only [Option.bind_some]
            rw [strOf_bytes (l := labelT c (blocksOf list (k : Int) m list.length)) (fun e => dec_ne c (List.append_eq_nil_iff.1 e).1)]
            simp
          simp only [un2, idx_nat, c2, hS, hy, Option.bind_some]
          refine Ok.step (setI_nat (by omega)) (Ok.ret ⟨by simp [b1], by simp [b2], fun l hl => ?_, fun l hl1 hl2 => ?_⟩)
          · simp only
            by_cases el : l = m
            · subst el; exact ⟨c, c1, by rw [List.getElem?_set_self (by omega)]⟩
            · obtain ⟨d, d1, d2⟩ := b3 l (by omega)
              exact ⟨d, d1, by rw [List.getElem?_set_ne (Ne.symm el)]; exact d2⟩
          · simp only
            rw [List.getElem?_set_ne (by omega)]
            exact b4 l (by omega) hl2
        · rintro ⟨T, o⟩ ⟨b1, b2, b3, _⟩
          simp only at b1 b2 b3
          simp only [un2]
          have hsz : ∀ s ∈ T, s.size ≤ 100000000 := by
            intro s hs
            obtain ⟨l, hl⟩ := List.mem_iff_getElem?.1 hs
            have hln : l < n := by have := (List.getElem?_eq_some_iff.1 hl).1; omega
            obtain ⟨c, c1, c2⟩ := b3 l hln
            obtain ⟨c', c1', hcb⟩ := hcost l hln
            have : c = c' := by rw [c1] at c1'; simp at c1'; omega
            subst this
            rw [hl] at c2; cases c2
            have hlen := labelT_len h (k := (k : Int)) (l := l) (i := list.length) (c := c) (Nat.le_refl _) hcb
            show (labelT c (blocksOf list (k : Int) l list.length)).length ≤ _
            omega
          refine Ok.bind ((numbered_ok T (by omega) hsz).mono ?_)
          rintro ⟨out, q⟩ ⟨n1, n2⟩
          simp only at n1
          rw [b1] at n1
          refine Ok.ret ⟨rfl, n1.congr fun a b ha hb => ?_⟩
          obtain ⟨c, c1, c2⟩ := b3 a ha
          obtain ⟨d, d1, d2⟩ := b3 b hb
          obtain ⟨_, oka⟩ := blocksOf_ok h (k := (k : Int)) (l := a) list.length (Nat.le_refl _)
          obtain ⟨_, okb⟩ := blocksOf_ok h (k := (k : Int)) (l := b) list.length (Nat.le_refl _)
          have hlen : (blocksOf list (k : Int) a list.length).length = (blocksOf list (k : Int) b list.length).length := by
            unfold blocksOf
            simp only [List.length_flatMap]
            congr 1
            apply List.map_congr_left
            intro j _
            split
            · rfl
            · split <;> rfl
          unfold eqL redR
          rw [c2, d2, c1, d1]
          constructor
          · intro e
            simp only [Option.some.injEq, ByteArray.mk.injEq] at e
            have e' : labelT c (blocksOf list (k : Int) a list.length) = labelT d (blocksOf list (k : Int) b list.length) := by simpa using e
            obtain ⟨e1, e2⟩ := labelT_inj hlen (fun l hl => (oka l hl).1) (fun l hl => (okb l hl).1) e'
            exact ⟨by rw [e1], fun i x hx hik => (blocksOf_iff list.length (Nat.le_refl _)).1 e2 i x (List.getElem?_eq_some_iff.1 hx).1 hx hik⟩
          · rintro ⟨e1, e2⟩
            have : c = d := by simp at e1; omega
            subst this
            rw [(blocksOf_iff list.length (Nat.le_refl _)).2 fun i x _ hx hik => e2 i x hx hik]
  · intro j hj
    obtain ⟨x, hx⟩ := get_some hj
    have hxm := List.mem_of_getElem? hx
    simp only [idx_nat, hx, Option.bind_some, tV, valB_iff.2 (h.v x hxm), Bool.not_true, Bool.false_eq_true, if_false, hi0, Equal_eq', h.c x hxm, hx0c, decide_true, if_true]
end Go.Pw
