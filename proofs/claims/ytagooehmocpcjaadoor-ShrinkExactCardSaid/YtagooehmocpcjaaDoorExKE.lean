/-
  The statement on exact distances, in plain Lean: it holds of every list of systems and every number.
-/
import Derived.Test.YtagooehmocpcjaaDoorExQR
import Derived.Test.YtagooehmocpcjaaDoorExRR
import Derived.Test.YtagooehmocpcjaaDoorExRd
import Derived.Test.YtagooehmocpcjaaDoorExA
import Derived.Test.YtagooehmocpcjaaDoorExG
set_option maxHeartbeats 4000000
set_option maxRecDepth 100000
set_option linter.unusedSimpArgs false
set_option linter.unusedVariables false
namespace Go.Pw
theorem isL_ex {c : List Int} {b : Int} : ∀ (n l : Nat), l ≤ n → c[l]? = some b → ∃ r, IsL c b r := by
  intro n
  induction n with
  | zero =>
    intro l hl h
    obtain rfl : l = 0 := by omega
    exact ⟨0, h, fun i hi => absurd hi (Nat.not_lt_zero _)⟩
  | succ n ih =>
    intro l hl h
    by_cases hex : ∃ i, i < l ∧ c[i]? = some b
    · obtain ⟨i, hi, hi2⟩ := hex
      exact ih i (by omega) hi2
    · exact ⟨l, h, fun i hi hi2 => hex ⟨i, hi, hi2⟩⟩
/-- Edges of labels of one class are alike. -/
def Closed (c : List Int) (x : System) : Prop := ∀ (f t : Int) (a b : Nat), b < c.length → c[a]? = c[b]? → (⟨f, (a : Int), t⟩ : Edge) ∈ x.Edges → (⟨f, (b : Int), t⟩ : Edge) ∈ x.Edges
/-- The one's edges are the other's, each with the first label of its class. -/
def RelE (c : List Int) (P Q : System) : Prop := ∀ (f t : Int) (r : Nat), (⟨f, (r : Int), t⟩ : Edge) ∈ Q.Edges ↔ ∃ (l : Nat) (b : Int), c[l]? = some b ∧ IsL c b r ∧ (⟨f, (l : Int), t⟩ : Edge) ∈ P.Edges
theorem RelRes.rel {x y : System} {c : List Int} (h : RelRes x c y) (hv : VSys x) : RelE c x y := by
  intro f t r
  rw [h.e]
  constructor
  · rintro ⟨d, hd, b, r', h1, h2, heq⟩
    obtain ⟨i, l, t', rfl, _, _, _⟩ := edge_nat hv hd
    simp only [Edge.mk.injEq] at heq
    obtain ⟨rfl, e, rfl⟩ := heq
    obtain rfl : r = r' := by omega
    exact ⟨l, b, by simpa using h1, h2, hd⟩
  · rintro ⟨l, b, h1, h2, hd⟩
    exact ⟨_, hd, b, r, by simpa using h1, h2, rfl⟩
theorem lt_of_some {α : Type} {l : List α} {i : Nat} {y : α} (h : l[i]? = some y) : i < l.length := (List.getElem?_eq_some_iff.1 h).1
theorem RelE.prod {c : List Int} {P Q x y P' Q' : System} (hP : ProdRes P x P') (hQ : ProdRes Q y Q') (vP : VSys P) (vx : VSys x) (vQ : VSys Q) (vy : VSys y) (hs : y.States = x.States) (h1 : RelE c P Q) (h2 : RelE c x y) (hcl : Closed c P ∨ Closed c x) : RelE c P' Q' := by
  intro f t r
  rw [hQ.e]
  constructor
  · rintro ⟨d, hd, g, hg, hl, he⟩
    obtain ⟨i, l0, t0, rfl, _, _, _⟩ := edge_nat vQ hd
    obtain ⟨j, l1, t1, rfl, _, _, _⟩ := edge_nat vy hg
    simp only [mkE, Edge.mk.injEq] at he hl
    obtain rfl : l0 = r := by omega
    obtain rfl : l1 = l0 := by omega
    obtain ⟨l, b, b1, b2, b3⟩ := (h1 _ _ _).1 hd
    obtain ⟨m, b', c1, c2, c3⟩ := (h2 _ _ _).1 hg
    have hbb : b = b' := Option.some.inj (b2.1.symm.trans c2.1)
    subst hbb
    rcases hcl with hcl | hcl
    · refine ⟨m, b, c1, c2, (hP.e _).2 ⟨_, hcl _ _ l m (lt_of_some c1) (b1.trans c1.symm) b3, _, c3, rfl, ?_⟩⟩
      simp only [mkE, Edge.mk.injEq]
      rw [← hs]
      exact ⟨he.1, trivial, he.2.2⟩
    · refine ⟨l, b, b1, b2, (hP.e _).2 ⟨_, b3, _, hcl _ _ m l (lt_of_some b1) (c1.trans b1.symm) c3, rfl, ?_⟩⟩
      simp only [mkE, Edge.mk.injEq]
      rw [← hs]
      exact ⟨he.1, trivial, he.2.2⟩
  · rintro ⟨l, b, b1, b2, b3⟩
    obtain ⟨d, hd, g, hg, hl, he⟩ := (hP.e _).1 b3
    obtain ⟨i, l0, t0, rfl, _, _, _⟩ := edge_nat vP hd
    obtain ⟨j, l1, t1, rfl, _, _, _⟩ := edge_nat vx hg
    simp only [mkE, Edge.mk.injEq] at he hl
    obtain rfl : l0 = l := by omega
    obtain rfl : l1 = l0 := by omega
    refine ⟨⟨i, r, t0⟩, (h1 _ _ _).2 ⟨_, b, b1, b2, hd⟩, ⟨j, r, t1⟩, (h2 _ _ _).2 ⟨_, b, b1, b2, hg⟩, rfl, ?_⟩
    simp only [mkE, Edge.mk.injEq]
    rw [hs]
    exact ⟨he.1, trivial, he.2.2⟩
theorem Closed.prod {c : List Int} {P x P' : System} (hP : ProdRes P x P') (vP : VSys P) (vx : VSys x) (h1 : Closed c P) (h2 : Closed c x) : Closed c P' := by
  intro f t a b hb hab h
  obtain ⟨d, hd, g, hg, hl, he⟩ := (hP.e _).1 h
  obtain ⟨i, l0, t0, rfl, _, _, _⟩ := edge_nat vP hd
  obtain ⟨j, l1, t1, rfl, _, _, _⟩ := edge_nat vx hg
  simp only [mkE, Edge.mk.injEq] at he hl
  obtain rfl : l0 = a := by omega
  obtain rfl : l1 = l0 := by omega
  refine (hP.e _).2 ⟨_, h1 _ _ _ b hb hab hd, _, h2 _ _ _ b hb hab hg, rfl, ?_⟩
  simp only [mkE, Edge.mk.injEq]
  exact ⟨he.1, trivial, he.2.2⟩
theorem mem_pairs {x : System} (hv : VSys x) {l i t : Nat} : (i, t) ∈ pairsOf x l x.Edges.length ↔ (⟨(i : Int), (l : Int), (t : Int)⟩ : Edge) ∈ x.Edges := by
  unfold pairsOf
  rw [List.take_length, List.mem_map]
  constructor
  · rintro ⟨d, hd, he⟩
    obtain ⟨h1, h2⟩ := List.mem_filter.1 hd
    obtain ⟨i', l', t', rfl, _, _, _⟩ := edge_nat hv h1
    simp only [decide_eq_true_eq] at h2
    simp only [Int.toNat_natCast, Prod.mk.injEq] at he
    obtain ⟨rfl, rfl⟩ := he
    obtain rfl : l' = l := by omega
    exact h1
  · intro h
    exact ⟨_, List.mem_filter.2 ⟨h, by simp⟩, by simp⟩
theorem closed_of {x : System} (hv : VSys x) {c : List Int} (hc : c.length = x.Costs.length) (h : ∀ a b, a < c.length → b < c.length → c[a]? = c[b]? → pairsOf x a x.Edges.length = pairsOf x b x.Edges.length) : Closed c x := by
  intro f t a b hb hab he
  obtain ⟨i, l, t', e, _, _, hl⟩ := edge_nat hv he
  simp only [Edge.mk.injEq] at e
  obtain ⟨rfl, e, rfl⟩ := e
  have hm := (mem_pairs hv).2 he
  rw [h a b (by omega) hb hab] at hm
  exact (mem_pairs hv).1 hm
theorem arc_same {P Q : System} {c : List Int} (vP : VSys P) (vQ : VSys Q) (hcs : Q.Costs = P.Costs) (hc : c.length = P.Costs.length) (hcost : ∀ a b, a < c.length → b < c.length → c[a]? = c[b]? → P.Costs[a]? = P.Costs[b]?) (hE : RelE c P Q) : ArcOf Q true = ArcOf P true := by
  funext v u w
  apply propext
  unfold ArcOf
  simp only [if_true]
  constructor
  · rintro ⟨d, hd, l, hl, hw, hto, hfr⟩
    obtain ⟨i, l', t', rfl, _, _, _⟩ := edge_nat vQ hd
    simp only at hl hto hfr
    obtain rfl : l' = l := by omega
    obtain ⟨m, b, b1, b2, b3⟩ := (hE _ _ _).1 hd
    refine ⟨_, b3, m, rfl, ?_, hto, hfr⟩
    rw [hcost m _ (lt_of_some b1) (lt_of_some b2.1) (b1.trans b2.1.symm), ← hcs]
    exact hw
  · rintro ⟨d, hd, l, hl, hw, hto, hfr⟩
    obtain ⟨i, l', t', rfl, _, _, hlc⟩ := edge_nat vP hd
    simp only at hl hto hfr
    obtain rfl : l' = l := by omega
    obtain ⟨b, hb⟩ := get_some (show l' < c.length by omega)
    obtain ⟨r, hr⟩ := isL_ex _ _ (Nat.le_refl _) hb
    refine ⟨_, (hE _ _ r).2 ⟨l', b, hb, hr, hd⟩, r, rfl, ?_, hto, hfr⟩
    rw [hcs, hcost r _ (lt_of_some hr.1) (lt_of_some hb) (hr.1.trans hb.symm)]
    exact hw
/-- What is known of both products after i systems. -/
structure FI (cs : List Int) (c : List Int) (k i : Nat) (P Q : System) : Prop where
  vP : VSys P
  vQ : VSys Q
  s : Q.States = P.States
  g : Q.Goals = P.Goals
  cP : P.Costs = cs
  cQ : Q.Costs = cs
  n : P.States ≤ ((5 ^ i : Nat) : Int)
  rel : RelE c P Q
  cl : i ≤ k → Closed c P
theorem redR_eqv2 (list : List System) (cs : List Int) (k : Int) (n : Nat) : Eqv n (redR list cs k) :=
  ⟨fun _ _ => ⟨rfl, fun _ _ _ _ => rfl⟩, fun _ _ _ _ h => ⟨h.1.symm, fun i x h1 h2 => (h.2 i x h1 h2).symm⟩, fun _ _ _ _ _ _ h g => ⟨h.1.trans g.1, fun i x h1 h2 => (h.2 i x h1 h2).trans (g.2 i x h1 h2)⟩⟩
/-- A system of the list that is not right, or of other costs than the first one. -/
def badAt (list : List System) (x0 : System) (j : Nat) : Prop := ∃ x, list[j]? = some x ∧ ¬ (VSys x ∧ x.Costs = x0.Costs)
open Classical in
theorem exact_law (list : List System) (k : Int) : law45_ShrinkExact_p list k = some true := by
  unfold law45_ShrinkExact_p
  simp only [awake_ok, Option.bind_some, Bool.not_true, Bool.false_eq_true, if_false]
  by_cases hn : 3 < (list.length : Int)
  · simp [hn]
  · by_cases hz : (list.length : Int) = 0
    · simp [hz]
    · simp only [hn, hz, decide_false, Bool.false_eq_true, if_false, Option.bind_some]
      refine Ok.eq (Ok.ctl (fun i _ => ∀ j x, j < i → list[j]? = some x → x.States ≤ 5 ∧ VSys x ∧ x.Edges.length ≤ 80 ∧ x.Costs.length ≤ 20) (fun r => r = true) (fun j x h => absurd h (Nat.not_lt_zero _)) ?_ (fun r hr => by rw [hr]; exact Ok.ret rfl) ?_)
      · rintro i _ hi hI
        obtain ⟨x, hx⟩ := get_some hi
        simp only [idx_nat, hx, Option.bind_some]
        by_cases h5 : 5 < x.States
        · simp only [h5, decide_true, if_true, Option.bind_some]
          exact Ok.ret rfl
        · simp only [h5, decide_false, Bool.false_eq_true, if_false]
          obtain ⟨b, hb1, hb2⟩ := large_ok x
          rw [hb1]
          cases b with
          | true => simp only [Option.bind_some, if_true]; exact Ok.ret rfl
          | false =>
            simp only [Option.bind_some, Bool.false_eq_true, if_false, tV]
            by_cases hv : VSys x
            · simp only [valB_iff.2 hv, Bool.not_true, Bool.false_eq_true, if_false]
              refine Ok.ret fun j y hj hy => ?_
              by_cases e : j = i
              · subst e
                rw [hx] at hy; cases hy
                have := hb2 rfl
                exact ⟨by omega, hv, this.2.2.1, this.2.2.2⟩
              · exact hI j y (by omega) hy
            · simp only [vnot hv, Bool.not_false, if_true]
              exact Ok.ret rfl
      · rintro _ hI
        obtain ⟨x0, hx0⟩ := get_some (show 0 < list.length by omega)
        have hi0 : idx list 0 = some x0 := by rw [show (0 : Int) = ((0 : Nat) : Int) from rfl, idx_nat, hx0]
        by_cases hbad : ∃ j, badAt list x0 j
        · obtain ⟨j, hj⟩ := hbad
          have hR : shrink_Reduce_p list k = some ([], some 2) := by
            unfold shrink_Reduce_p
            rw [ctl_all (p := fun j => !decide (badAt list x0 j)) (r := ([], some 2)) ?_]
            · rw [if_neg]
              intro hall
              obtain ⟨x, hx, hb⟩ := hj
              have := List.all_eq_true.1 hall j (by have := (List.getElem?_eq_some_iff.1 hx).1; simpa using this)
              simp only [Bool.not_eq_true', decide_eq_false_iff_not] at this
              exact this ⟨x, hx, hb⟩
            · intro q hq
              obtain ⟨x, hx⟩ := get_some hq
              have hbi : badAt list x0 q ↔ ¬ (VSys x ∧ x.Costs = x0.Costs) := ⟨fun ⟨y, hy, hb⟩ => by rw [hx] at hy; cases hy; exact hb, fun h => ⟨x, hx, h⟩⟩
              simp only [idx_nat, hx, Option.bind_some, tV, hi0, Equal_eq']
              by_cases hv : VSys x
              · by_cases hc : x.Costs = x0.Costs
                · have : ¬ badAt list x0 q := fun h => hbi.1 h ⟨hv, hc⟩
                  simp [valB_iff.2 hv, hc, this]
                · have : badAt list x0 q := hbi.2 fun h => hc h.2
                  simp [valB_iff.2 hv, hc, this]
              · have : badAt list x0 q := hbi.2 fun h => hv h.1
                simp [vnot hv, this]
          rw [hR]
          simp only [Option.bind_some, un2, Option.isSome_some, if_true]
          exact Ok.ret rfl
        · have hall : ∀ x ∈ list, VSys x ∧ x.Costs = x0.Costs := by
            intro x hx
            obtain ⟨j, hj⟩ := List.mem_iff_getElem?.1 hx
            apply Classical.byContradiction
            intro h
            exact hbad ⟨j, x, hj, h⟩
          by_cases hk : k < 0 ∨ (list.length : Int) ≤ k
          · have hR : shrink_Reduce_p list k = some ([], some 1) := by
              unfold shrink_Reduce_p
              rw [ctl_all (p := fun _ => true) (r := ([], some 2)) ?_]
              · rw [if_pos (by simp), if_pos (by simpa using hk)]
              · intro q hq
                obtain ⟨x, hx⟩ := get_some hq
                obtain ⟨a1, a2⟩ := hall x (List.mem_of_getElem? hx)
                simp only [idx_nat, hx, Option.bind_some, tV, hi0, Equal_eq', valB_iff.2 a1, a2, decide_true, Bool.not_true, Bool.false_eq_true, if_false, if_true]
            rw [hR]
            simp only [Option.bind_some, un2, Option.isSome_some, if_true]
            exact Ok.ret rfl
          · obtain ⟨kn, hkn⟩ : ∃ kn : Nat, k = (kn : Int) := ⟨k.toNat, by omega⟩
            subst hkn
            have hget : ∀ x ∈ list, x.States ≤ 5 ∧ VSys x ∧ x.Edges.length ≤ 80 ∧ x.Costs.length ≤ 20 := by
              intro x hx
              obtain ⟨j, hj⟩ := List.mem_iff_getElem?.1 hx
              exact hI j x (List.getElem?_eq_some_iff.1 hj).1 hj
            have hL : LOK list x0.Costs := ⟨fun x hx => (hall x hx).1, fun x hx => by have := (hget x hx).1; omega, fun x hx => (hget x hx).2.2.1, fun x hx => (hall x hx).2, by omega⟩
            have hc20 := (hget x0 (List.mem_of_getElem? hx0)).2.2.2
            obtain ⟨⟨c, e⟩, h1, h2, h3⟩ := reduce_ok hL (k := kn) (by omega) (by omega)
            simp only at h2 h3
            subst h2
            rw [h1]
            simp only [Option.bind_some, un2, Option.isSome_none, Bool.false_eq_true, if_false]
            have hEq := redR_eqv2 list x0.Costs (kn : Int) x0.Costs.length
            have hK := h3.kok hEq
            have hcl := h3.1
            have hal : ∀ a b, a < x0.Costs.length → b < x0.Costs.length → c[a]? = c[b]? → redR list x0.Costs (kn : Int) a b := fun a b ha hb hab => (h3.iff hEq ha hb).1 hab
            have hclosed : ∀ (i : Nat) (x : System), list[i]? = some x → i ≠ kn → Closed c x := by
              intro i x hx hik
              obtain ⟨a1, a2⟩ := hall x (List.mem_of_getElem? hx)
              refine closed_of a1 (by rw [hcl, a2]) fun a b ha hb hab => ?_
              rw [hcl] at ha hb
              exact (hal a b ha hb hab).2 i x hx (by omega)
            have hrel : ∀ x ∈ list, ∃ y, shrink_Relabel_p x c = some (none, y) ∧ RelRes x c y := by
              intro x hx
              obtain ⟨a1, a2⟩ := hall x hx
              obtain ⟨⟨e, y⟩, g1, g2, g3⟩ := relabel_ok a1 (c := c) (by rw [a2]; exact hK) (fun a b ha hb hab => by rw [a2] at ha hb ⊢; exact (hal a b ha hb hab).1)
              simp only at g2 g3
              subst g2
              exact ⟨y, g1, g3⟩
            refine Ok.ctl (fun i s => i = 0 ∨ FI x0.Costs c kn i (un10 (fun a b c d e _ _ _ _ _ => (⟨a, b, c, d, e⟩ : System)) s) (un10 (fun _ _ _ _ _ a b c d e => (⟨a, b, c, d, e⟩ : System)) s)) (fun _ => False) (.inl rfl) ?_ (fun _ h => h.elim) ?_
            · rintro i ⟨p1, p2, p3, p4, p5, q1, q2, q3, q4, q5⟩ hi hF
              obtain ⟨x, hx⟩ := get_some hi
              have hxm := List.mem_of_getElem? hx
              obtain ⟨y, hy, hyr⟩ := hrel x hxm
              obtain ⟨a1, a2⟩ := hall x hxm
              obtain ⟨b1, _, b3, _⟩ := hget x hxm
              have vy := hyr.v a1 (by rw [hcl, a2])
              simp only [un10, idx_nat, hx, hy, Option.bind_some, un2, Option.isSome_none, Bool.false_eq_true, if_false]
              by_cases h0 : i = 0
              · subst h0
                simp only [Int.natCast_zero, decide_true, if_true]
                refine Ok.ret (.inr ?_)
                simp only [un10]
                exact ⟨a1, vy, hyr.s, hyr.g, a2, hyr.cs.trans a2, by simpa using b1, hyr.rel a1, fun hk0 => by
                  rcases Nat.eq_zero_or_pos kn with h | h
                  · omega
                  · exact hclosed 0 x hx (by omega)⟩
              · have hi0' : ¬ (i : Int) = 0 := by omega
                simp only [hi0', decide_false, Bool.false_eq_true, if_false]
                have hF := hF.resolve_left h0
                simp only [un10] at hF
                generalize (⟨p1, p2, p3, p4, p5⟩ : System) = P at hF ⊢
                generalize (⟨q1, q2, q3, q4, q5⟩ : System) = Q at hF ⊢
                have hN : 5 ^ i * 5 ^ i * 80 ≤ 65536 ∧ 5 ^ i * 5 ≤ 4096 ∧ 5 ^ (i + 1) = 5 ^ i * 5 := by
                  rcases (show i = 1 ∨ i = 2 by omega) with h | h <;> subst h <;> decide
                obtain ⟨hN1, hN2, hN3⟩ := hN
                have hPn := hF.n
                have hst : P.States * x.States ≤ ((5 ^ i * 5 : Nat) : Int) := by
                  have := Int.mul_le_mul hPn b1 (by have := a1.s1; omega) (Int.natCast_nonneg _)
                  simpa using this
                have hmP : 5 ^ i * 5 ^ i * x.Edges.length ≤ 65536 := Nat.le_trans (Nat.mul_le_mul_left _ b3) hN1
                have hmQ : 5 ^ i * 5 ^ i * y.Edges.length ≤ 65536 := Nat.le_trans (Nat.mul_le_mul_left _ (Nat.le_trans hyr.l b3)) hN1
                obtain ⟨⟨e1, P'⟩, g1, g2, g3, g4⟩ := product_ok hF.vP a1 (hF.cP.trans a2.symm) (by omega) (fun l => rows_sq hF.vP hPn l) hmP
                obtain ⟨⟨e2, Q'⟩, f1, f2, f3, f4⟩ := product_ok hF.vQ vy (hF.cQ.trans (hyr.cs.trans a2).symm) (by rw [hF.s, hyr.s]; omega) (fun l => rows_sq hF.vQ (by rw [hF.s]; exact hPn) l) hmQ
                simp only at g2 g3 g4 f2 f3 f4
                subst g2 f2
                rw [g1]
                simp only [Option.bind_some, un2]
                rw [f1]
                simp only [Option.bind_some, un2, Option.isSome_none, Bool.or_self, Bool.false_eq_true, if_false]
                refine Ok.ret (.inr ?_)
                simp only [un10]
                have hclP : Closed c P ∨ Closed c x := by
                  by_cases hik : i = kn
                  · exact .inl (hF.cl (by omega))
                  · exact .inr (hclosed i x hx hik)
                exact ⟨g3.v hF.vP a1 (hF.cP.trans a2.symm) (by omega) (by omega), f3.v hF.vQ vy (hF.cQ.trans (hyr.cs.trans a2).symm) (by rw [hF.s, hyr.s]; omega) (by omega), by rw [f3.s, g3.s, hF.s, hyr.s], by rw [f3.g, g3.g]; unfold goalsP; rw [hF.g, hyr.g], g3.c.trans hF.cP, f3.c.trans hF.cQ, by rw [g3.s, hN3]; exact hst, hF.rel.prod g3 f3 hF.vP a1 hF.vQ vy hyr.s (hyr.rel a1) hclP, fun hik => (hF.cl (by omega)).prod g3 hF.vP a1 (hclosed i x hx (by omega))⟩
            · rintro ⟨p1, p2, p3, p4, p5, q1, q2, q3, q4, q5⟩ hF
              have hF := hF.resolve_left (by omega)
              simp only [un10] at hF ⊢
              generalize (⟨p1, p2, p3, p4, p5⟩ : System) = P at hF ⊢
              generalize (⟨q1, q2, q3, q4, q5⟩ : System) = Q at hF ⊢
              obtain ⟨⟨d, e1⟩, g1, g2, g3⟩ := dist_ok hF.vP
              obtain ⟨⟨f, e2⟩, f1, f2, f3⟩ := dist_ok hF.vQ
              simp only at g2 g3 f2 f3
              subst g2 f2
              have harc := arc_same hF.vP hF.vQ (hF.cQ.trans hF.cP.symm) (by rw [hcl, hF.cP]) (fun a b ha hb hab => by rw [hcl] at ha hb; rw [hF.cP]; exact (hal a b ha hb hab).1) hF.rel
              have hsrc : gsrc Q = gsrc P := by unfold gsrc; rw [hF.g]
              rw [harc, hsrc, hF.s] at f3
              have hdf : d = f := g3.uniq (aokT hF.vP) f3
              subst hdf
              rw [g1]
              simp only [Option.bind_some, un2]
              rw [f1]
              simp only [Option.bind_some, un2, Option.isNone_none, if_true, Ints_p, decide_true]
              exact Ok.ret rfl
end Go.Pw
