/-
  The product of two valid systems, in plain Lean: the lists it is of.
-/
import Derived.Test.YtagooehmocpcjaaDoorExR0
import Derived.Test.YtagooehmocpcjaaDoorB1
set_option maxHeartbeats 4000000
set_option linter.unusedSimpArgs false
set_option linter.unusedVariables false
namespace Go.Pw
def goalsP (a b : System) : List Bool := a.Goals.flatMap fun g => b.Goals.map fun h => g && h
theorem goals_loop (a b : System) (ha : a.Goals.length ≤ 4096) (hb : b.Goals.length ≤ 4096) (B : Nat → List Bool → Option (List Bool))
    (hB : ∀ i z, B i z = (forS (fun j => fun (l : List Bool) => ((idx a.Goals (i : Int)).bind fun x => if x then ((idx b.Goals (j : Int)).bind fun y => (app 1 l [y]).bind fun l' => some l') else ((app 1 l [false]).bind fun l' => some l')).bind (fun (l' : List Bool) => some l')) b.Goals.length 0 z).bind (fun (l : List Bool) => some l)) :
    forS B a.Goals.length 0 [] = some (goalsP a b) := by
  have := forS_list a.Goals (fun g => b.Goals.map fun h => g && h) (B := B) (s0 := []) ?_
  · simpa [goalsP] using this
  intro i g s hg hs
  have hi : i < a.Goals.length := (List.getElem?_eq_some_iff.1 hg).1
  have hsl : s.length ≤ 4096 * 4096 := by
    rw [hs, List.nil_append]
    refine Nat.le_trans (flat_le (M := b.Goals.length) (by simp)) ?_
    refine Nat.mul_le_mul ?_ hb
    simp; omega
  rw [hB, forS_list b.Goals (fun h => [g && h]) (s0 := s) ?_]
  · simp [flat_one]
  · intro j h t hh ht
    have hj : j < b.Goals.length := (List.getElem?_eq_some_iff.1 hh).1
    have htl : t.length ≤ 4096 * 4096 + 4096 := by
      rw [ht, List.length_append, flat_one, List.length_map, List.length_take]; omega
    simp only [idx_nat, hg, hh, Option.bind_some]
    cases g with
    | true => simp only [if_true]; rw [app_ok (by simp; omega)]; simp
    | false => simp only [Bool.false_eq_true, if_false]; rw [app_ok (by simp; omega)]; simp

def rowsOf (x : System) (l : Nat) : List Edge := x.Edges.filter fun d => decide (d.Label = (l : Int))
theorem rowsOf_le (x : System) (l : Nat) : (rowsOf x l).length ≤ x.Edges.length := List.length_filter_le _ _
theorem labelled_spec (x : System) (hv : VSys x) : Ok (transys_labelled_p x) fun L => L.length = x.Costs.length ∧ ∀ l, l < x.Costs.length → L[l]? = some (rowsOf x l) := by
  unfold transys_labelled_p
  have hc := hv.c
  have he := hv.e
  refine Ok.step (mk_ok (by omega) (by omega)) (Ok.bind ?_)
  refine Ok.forS (fun i L => L.length = x.Costs.length ∧ ∀ l, l < x.Costs.length → L[l]? = some ((x.Edges.take i).filter fun d => decide (d.Label = (l : Int)))) ?_ ?_ ?_
  · refine ⟨by simp, fun l hl => ?_⟩
    simp [hl]
  · rintro i L hi ⟨h1, h2⟩
    obtain ⟨d, hd⟩ := get_len hi
    obtain ⟨e1, e2, e3, e4, e5, e6⟩ := hv.edge d (List.mem_of_getElem? hd)
    obtain ⟨l, hl⟩ : ∃ l : Nat, d.Label = (l : Int) := ⟨d.Label.toNat, by omega⟩
    have hlc : l < x.Costs.length := by omega
    rw [idx_nat, hd]
    simp only [Option.bind_some, hl, idx_nat, h2 l hlc]
    have hlen : ((x.Edges.take i).filter fun d => decide (d.Label = (l : Int))).length ≤ 65536 := by
      refine Nat.le_trans (List.length_filter_le _ _) ?_
      simp; omega
    refine Ok.step (app_ok (by simp only [List.length_singleton]; omega)) (Ok.step (setI_nat (by omega)) (Ok.ret ⟨by simp [h1], fun k hk => ?_⟩))
    rw [List.take_add_one, hd]
    by_cases e : k = l
    · subst e
      simp [h1, hk, List.filter_append, hl]
    · rw [List.getElem?_set_ne (Ne.symm e), h2 k hk]
      have : ¬ (d.Label = (k : Int)) := by omega
      simp [List.filter_append, this]
  · rintro L ⟨h1, h2⟩
    exact Ok.ret ⟨h1, fun l hl => by rw [h2 l hl, List.take_length]; rfl⟩

def mkE (n : Int) (l : Int) (d f : Edge) : Edge := ⟨d.From * n + f.From, l, d.To * n + f.To⟩
def PE (a b : System) (e : Edge) : Prop := ∃ d ∈ a.Edges, ∃ f ∈ b.Edges, d.Label = f.Label ∧ e = mkE b.States d.Label d f
structure ProdRes (a b x : System) : Prop where
  s : x.States = a.States * b.States
  i : x.Init = a.Init * b.States + b.Init
  c : x.Costs = a.Costs
  g : x.Goals = goalsP a b
  o : Srt x.Edges
  e : ∀ e, e ∈ x.Edges ↔ PE a b e
theorem ProdRes.uniq {a b x y : System} (h : ProdRes a b x) (k : ProdRes a b y) : x = y := by
  have he : x.Edges = y.Edges := h.o.ext k.o fun e => (h.e e).trans (k.e e).symm
  obtain ⟨x1, x2, x3, x4, x5⟩ := x
  obtain ⟨y1, y2, y3, y4, y5⟩ := y
  have h1 := h.s.trans k.s.symm
  have h2 := h.i.trans k.i.symm
  have h3 := h.c.trans k.c.symm
  have h4 := h.g.trans k.g.symm
  simp only at *
  subst h1 h2 h3 h4 he
  rfl

theorem lin_inj {n x y x' y' : Int} (h0 : 0 ≤ y) (h1 : y < n) (h2 : 0 ≤ y') (h3 : y' < n) (h : x * n + y = x' * n + y') : x = x' ∧ y = y' := by
  have hn : 0 < n := by omega
  rcases Int.lt_trichotomy x x' with hlt | heq | hgt
  · have : (x + 1) * n ≤ x' * n := Int.mul_le_mul_of_nonneg_right (by omega) (by omega)
    rw [Int.add_mul, Int.one_mul] at this
    omega
  · subst heq; exact ⟨rfl, by omega⟩
  · have : (x' + 1) * n ≤ x * n := Int.mul_le_mul_of_nonneg_right (by omega) (by omega)
    rw [Int.add_mul, Int.one_mul] at this
    omega
theorem mul_bd {x n : Int} (h0 : 0 ≤ x) (h1 : x ≤ 4096) (h2 : 0 ≤ n) (h3 : n ≤ 4096) : 0 ≤ x * n ∧ x * n ≤ 16777216 := by
  refine ⟨Int.mul_nonneg h0 h2, ?_⟩
  have : x * n ≤ 4096 * 4096 := Int.mul_le_mul h1 h3 h2 (by omega)
  omega
theorem mkE_wrap {a b : System} (ha : VSys a) (hb : VSys b) {d f : Edge} (hd : d ∈ a.Edges) (hf : f ∈ b.Edges) (l : Int) :
    (⟨IntKind.i64.wrap ((IntKind.i64.wrap (d.From * b.States)) + f.From), l, IntKind.i64.wrap ((IntKind.i64.wrap (d.To * b.States)) + f.To)⟩ : Edge) = mkE b.States l d f := by
  obtain ⟨d1, d2, d3, d4, _, _⟩ := ha.edge d hd
  obtain ⟨f1, f2, f3, f4, _, _⟩ := hb.edge f hf
  have s1 := ha.s2
  have s2 := hb.s1
  have s3 := hb.s2
  have m1 := mul_bd (x := d.From) (n := b.States) d1 (by omega) (by omega) (by omega)
  have m2 := mul_bd (x := d.To) (n := b.States) d3 (by omega) (by omega) (by omega)
  have w1 : IntKind.i64.wrap (d.From * b.States) = d.From * b.States := wrap_id (by omega) (by omega)
  have w2 : IntKind.i64.wrap (d.To * b.States) = d.To * b.States := wrap_id (by omega) (by omega)
  rw [w1, w2, wrap_id (by omega) (by omega), wrap_id (by omega) (by omega)]
  rfl
def rowP (a b : System) (l : Nat) : List Edge := (rowsOf a l).flatMap fun d => (rowsOf b l).map fun f => mkE b.States (l : Int) d f
def allP (a b : System) : List Edge := (List.range a.Costs.length).flatMap (rowP a b)
theorem mem_rows {x : System} {l : Nat} {d : Edge} : d ∈ rowsOf x l ↔ d ∈ x.Edges ∧ d.Label = (l : Int) := by simp [rowsOf]
theorem mem_allP {a b : System} (ha : VSys a) (e : Edge) : e ∈ allP a b ↔ PE a b e := by
  simp only [allP, rowP, List.mem_flatMap, List.mem_range, List.mem_map, mem_rows, PE]
  constructor
  · rintro ⟨l, hl, d, ⟨hd, hdl⟩, f, ⟨hf, hfl⟩, rfl⟩
    exact ⟨d, hd, f, hf, hdl.trans hfl.symm, by rw [hdl]⟩
  · rintro ⟨d, hd, f, hf, hdf, rfl⟩
    obtain ⟨e1, e2, e3, e4, e5, e6⟩ := ha.edge d hd
    obtain ⟨l, hl⟩ : ∃ l : Nat, d.Label = (l : Int) := ⟨d.Label.toNat, by omega⟩
    exact ⟨l, by omega, d, ⟨hd, hl⟩, f, ⟨hf, hdf ▸ hl⟩, by rw [hl]⟩
theorem nodup_allP {a b : System} (ha : VSys a) (hb : VSys b) : (allP a b).Nodup := by
  have na := ha.srt.nodup
  have nb := hb.srt.nodup
  unfold allP
  refine List.pairwise_flatMap.2 ⟨fun l _ => ?_, ?_⟩
  · unfold rowP
    refine List.pairwise_flatMap.2 ⟨fun d hd => ?_, ?_⟩
    · refine List.pairwise_map.2 ?_
      refine List.Pairwise.imp_of_mem ?_ (nb.sublist List.filter_sublist)
      intro f f' hf hf' hne heq
      apply hne
      obtain ⟨hf1, hf2⟩ := mem_rows.1 hf
      obtain ⟨hf1', hf2'⟩ := mem_rows.1 hf'
      simp only [mkE, Edge.mk.injEq] at heq
      obtain ⟨f1, f2, f3⟩ := f
      obtain ⟨g1, g2, g3⟩ := f'
      simp only [Edge.mk.injEq] at *
      omega
    · refine List.Pairwise.imp_of_mem ?_ (na.sublist List.filter_sublist)
      intro d d' hd hd' hne e he e' he' heq
      apply hne
      subst heq
      obtain ⟨f, hf, rfl⟩ := List.mem_map.1 he
      obtain ⟨f', hf', heq⟩ := List.mem_map.1 he'
      obtain ⟨hf1, hf2⟩ := mem_rows.1 hf
      obtain ⟨hf1', hf2'⟩ := mem_rows.1 hf'
      obtain ⟨hd1, hd2⟩ := mem_rows.1 hd
      obtain ⟨hd1', hd2'⟩ := mem_rows.1 hd'
      obtain ⟨a1, a2, a3, a4, _, _⟩ := hb.edge f hf1
      obtain ⟨b1, b2, b3, b4, _, _⟩ := hb.edge f' hf1'
      simp only [mkE, Edge.mk.injEq, true_and] at heq
      have h1 := lin_inj b1 b2 a1 a2 heq.1
      have h2 := lin_inj b3 b4 a3 a4 heq.2
      obtain ⟨x1, x2, x3⟩ := d
      obtain ⟨y1, y2, y3⟩ := d'
      simp only [Edge.mk.injEq] at *
      omega
  · refine List.Pairwise.imp ?_ (List.pairwise_lt_range (n := a.Costs.length))
    intro l l' hlt e he e' he' heq
    subst heq
    simp only [rowP, List.mem_flatMap, List.mem_map] at he he'
    obtain ⟨d, _, f, _, rfl⟩ := he
    obtain ⟨d', _, f', _, heq⟩ := he'
    simp only [mkE, Edge.mk.injEq] at heq
    omega
theorem rowP_le (a b : System) (l : Nat) : (rowP a b l).length ≤ a.Edges.length * b.Edges.length := by
  unfold rowP
  refine Nat.le_trans (flat_le (M := b.Edges.length) fun d _ => ?_) (Nat.mul_le_mul_right _ (rowsOf_le a l))
  rw [List.length_map]
  exact rowsOf_le b l
end Go.Pw
/-
  The program's product, in plain Lean: few edges of a label are enough.
-/
set_option maxHeartbeats 4000000
set_option linter.unusedSimpArgs false
set_option linter.unusedVariables false
namespace Go.Pw
open Classical in
theorem eq_loop {α β : Type} (t : α → α → Bool) (ht : ∀ x y, t x y = true ↔ x ≠ y) (xs ys : List α) (hl : xs.length = ys.length) {kr : Bool → Option β} {k : Unit → Option β} :
    ctl (forC (R := Bool) (fun i => fun (_ : Unit) => (idx xs (i : Int)).bind fun x => (idx ys (i : Int)).bind fun y => if t x y then some (Ctl.ret false) else some (Ctl.next ())) xs.length 0 ()) kr k = if xs = ys then k () else kr false := by
  rw [ctl_all (p := fun i => decide (xs[i]? = ys[i]?)) (r := false)]
  · by_cases h : xs = ys
    · subst h; simp
    · rw [if_neg h, if_neg]
      intro hall
      apply h
      apply List.ext_getElem?
      intro i
      by_cases hi : i < xs.length
      · have := List.all_eq_true.1 hall i (by simpa using hi)
        simpa using this
      · rw [List.getElem?_eq_none (by omega), List.getElem?_eq_none (by omega)]
  · intro i hi
    obtain ⟨x, hx⟩ := get_len hi
    obtain ⟨y, hy⟩ := get_len (show i < ys.length by omega)
    simp only [idx_nat, hx, hy, Option.bind_some, Option.some.injEq]
    by_cases e : x = y
    · have : t x y = false := by
        cases ht' : t x y with
        | false => rfl
        | true => exact absurd e ((ht x y).1 ht')
      subst e
      simp [this]
    · simp [(ht x y).2 e, e]
theorem Equal_p (xs ys : List Int) : slices_Equal___int_int__p xs ys = some (decide (xs = ys)) := by
  unfold slices_Equal___int_int__p
  by_cases h : xs.length = ys.length
  · rw [if_neg (by simp [h]), eq_loop (fun x y => !decide (x = y)) (by simp) xs ys h]
    by_cases e : xs = ys <;> simp [e]
  · rw [if_pos (by simp; omega)]
    have : xs ≠ ys := fun e => h (by rw [e])
    simp [this]
theorem Ints_p (xs ys : List Int) : base_Ints_p xs ys = some (decide (xs = ys)) := Equal_p xs ys
theorem rows_count (x : System) (hv : VSys x) (i : Nat) : (x.Edges.filter fun d => decide (d.Label < ((i + 1 : Nat) : Int))).length = (x.Edges.filter fun d => decide (d.Label < (i : Int))).length + (rowsOf x i).length := by
  unfold rowsOf
  have : ∀ l : List Edge, (l.filter fun d => decide (d.Label < ((i + 1 : Nat) : Int))).length = (l.filter fun d => decide (d.Label < (i : Int))).length + (l.filter fun d => decide (d.Label = (i : Int))).length := by
    intro l
    induction l with
    | nil => simp
    | cons d l ih =>
      simp only [List.filter_cons]
      by_cases h1 : d.Label < (i : Int)
      · have h2 : d.Label < ((i + 1 : Nat) : Int) := by omega
        have h3 : ¬ d.Label = (i : Int) := by omega
        simp only [h1, h2, h3, decide_true, decide_false, if_true, Bool.false_eq_true, if_false, List.length_cons]; omega
      · by_cases h3 : d.Label = (i : Int)
        · have h2 : d.Label < ((i + 1 : Nat) : Int) := by omega
          simp only [h1, h2, h3, decide_true, decide_false, if_true, Bool.false_eq_true, if_false, List.length_cons]
          have e1 : decide ((i : Int) < (i : Int)) = false := by simp
          have e2 : decide ((i : Int) < ((i + 1 : Nat) : Int)) = true := by simp; omega
          simp only [e1, e2, if_true, Bool.false_eq_true, if_false, List.length_cons]
          omega
        · have h2 : ¬ d.Label < ((i + 1 : Nat) : Int) := by omega
          simp only [h1, h2, h3, decide_true, decide_false, if_true, Bool.false_eq_true, if_false, List.length_cons]; omega
  exact this _

theorem rowP_le2 (a b : System) {M0 : Nat} (hM0 : ∀ l, (rowsOf a l).length ≤ M0) (l : Nat) : (rowP a b l).length ≤ M0 * b.Edges.length := by
  unfold rowP
  refine Nat.le_trans (flat_le (M := b.Edges.length) fun d _ => ?_) (Nat.mul_le_mul_right _ (hM0 l))
  rw [List.length_map]
  exact rowsOf_le b l
theorem allP_le (a b : System) (hb : VSys b) {M0 : Nat} (hM0 : ∀ l, (rowsOf a l).length ≤ M0) : ∀ i, ((List.range i).flatMap (rowP a b)).length ≤ M0 * (b.Edges.filter fun d => decide (d.Label < (i : Int))).length := by
  intro i
  induction i with
  | zero => simp
  | succ i ih =>
    rw [List.range_succ, List.flatMap_append, List.length_append, rows_count b hb i, Nat.mul_add]
    refine Nat.add_le_add ih ?_
    rw [List.flatMap_singleton]
    unfold rowP
    refine Nat.le_trans (flat_le (M := (rowsOf b i).length) fun d _ => ?_) (Nat.mul_le_mul_right _ (hM0 i))
    rw [List.length_map]
    exact Nat.le_refl _
theorem product_ok {a b : System} (ha : VSys a) (hb : VSys b) (hc : a.Costs = b.Costs) (hs : a.States * b.States ≤ 4096) {M0 : Nat} (hM0 : ∀ l, (rowsOf a l).length ≤ M0) (hm : M0 * b.Edges.length ≤ 65536) :
    Ok (transys_Product_p a b) fun r => r.1 = none ∧ ProdRes a b r.2 ∧ r.2.Edges.length ≤ M0 * b.Edges.length := by
  unfold transys_Product_p
  have va := valB_iff.2 ha
  have vb := valB_iff.2 hb
  simp only [tV, va, vb, Equal_p, hc, Option.bind_some, Bool.not_true, Bool.false_eq_true, if_false, decide_true]
  have s1 := ha.s1; have s2 := ha.s2; have s3 := hb.s1; have s4 := hb.s2; have i0 := ha.i0; have i1 := ha.i1; have j0 := hb.i0; have j1 := hb.i1
  have g1 := ha.g; have g2 := hb.g; have c1 := ha.c; have c2 := hb.c; have e1 := ha.e; have e2 := hb.e
  have m1 := mul_bd (x := a.States) (n := b.States) (by omega) (by omega) (by omega) (by omega)
  have m2 := mul_bd (x := a.Init) (n := b.States) (by omega) (by omega) (by omega) (by omega)
  have w1 : IntKind.i64.wrap (a.States * b.States) = a.States * b.States := wrap_id (by omega) (by omega)
  have w2 : IntKind.i64.wrap (a.Init * b.States) = a.Init * b.States := wrap_id (by omega) (by omega)
  have w3 : IntKind.i64.wrap (a.Init * b.States + b.Init) = a.Init * b.States + b.Init := wrap_id (by omega) (by omega)
  rw [w1, w2, w3]
  have hng : ¬ 4096 < a.States * b.States := by omega
  simp only [hng, decide_false, Bool.false_eq_true, if_false]
  have hclone : slices_Clone___int_int__p b.Costs = some b.Costs := by
    unfold slices_Clone___int_int__p
    rw [app_ok (by simp; omega)]
    simp
  rw [hclone]
  simp only [Option.bind_some]
  refine Ok.must (by simp; omega) ?_
  have hga : a.States.toNat = a.Goals.length := by omega
  have hgb : b.States.toNat = b.Goals.length := by omega
  have hmust : must (decide (b.States ≤ 9223372036854775807)) = some () := by unfold must; rw [if_pos (by simp; omega)]
  simp only [hmust, Option.bind_some, hga, hgb]
  rw [goals_loop a b (by omega) (by omega) _ (fun _ _ => rfl)]
  simp only [Option.bind_some]
  obtain ⟨L, hL, hL1, hL2⟩ := labelled_spec a ha
  obtain ⟨M, hM, hM1, hM2⟩ := labelled_spec b hb
  rw [hL, hM]
  simp only [Option.bind_some, hL1]
  refine Ok.bind (Ok.forS (fun i many => 0 ≤ many ∧ many ≤ ((M0 * (b.Edges.filter fun d => decide (d.Label < (i : Int))).length : Nat) : Int)) ?_ ?_ ?_)
  · constructor
    · exact Int.le_refl _
    · exact Int.natCast_nonneg _
  · rintro i many hi ⟨h1, h2⟩
    rw [idx_nat, hL2 i hi, idx_nat, hM2 i (by rw [← hc]; exact hi)]
    simp only [Option.bind_some]
    have hr1 := rowsOf_le a i
    have hr2 := rowsOf_le b i
    have hA := rows_count b hb i
    have hfl : (b.Edges.filter fun d => decide (d.Label < ((i + 1 : Nat) : Int))).length ≤ b.Edges.length := List.length_filter_le _ _
    have hprod : (rowsOf a i).length * (rowsOf b i).length ≤ M0 * (rowsOf b i).length := Nat.mul_le_mul_right _ (hM0 i)
    have htot : M0 * (b.Edges.filter fun d => decide (d.Label < ((i + 1 : Nat) : Int))).length ≤ M0 * b.Edges.length := Nat.mul_le_mul_left _ hfl
    have hsum : M0 * (b.Edges.filter fun d => decide (d.Label < ((i + 1 : Nat) : Int))).length = M0 * (b.Edges.filter fun d => decide (d.Label < (i : Int))).length + M0 * (rowsOf b i).length := by rw [hA, Nat.mul_add]
    have hcast : ((rowsOf a i).length : Int) * ((rowsOf b i).length : Int) = (((rowsOf a i).length * (rowsOf b i).length : Nat) : Int) := by simp
    rw [hcast, wrap_id (n := (((rowsOf a i).length * (rowsOf b i).length : Nat) : Int)) (by omega) (by omega), wrap_id (by omega) (by omega)]
    refine Ok.ret ⟨by omega, by omega⟩
  · rintro many ⟨h1, h2⟩
    have hfl : (b.Edges.filter fun d => decide (d.Label < ((a.Costs.length : Nat) : Int))).length ≤ b.Edges.length := List.length_filter_le _ _
    have htot : M0 * (b.Edges.filter fun d => decide (d.Label < ((a.Costs.length : Nat) : Int))).length ≤ M0 * b.Edges.length := Nat.mul_le_mul_left _ hfl
    have hno : ¬ 65536 < many := by omega
    simp only [hno, decide_false, Bool.false_eq_true, if_false]
    have hloop : forS (fun i11301 => fun (z12151 : List Edge) => (idx L (i11301 : Int)).bind fun x13032 =>
        (forS (fun i13040 => fun (l13297 : List Edge) => (idx x13032 (i13040 : Int)).bind fun x13598 =>
        (idx M (i11301 : Int)).bind fun x13618 =>
        (forS (fun i13626 => fun (l13676 : List Edge) => (idx x13618 (i13626 : Int)).bind fun x13775 =>
        (app 24 l13676 [(⟨IntKind.i64.wrap ((IntKind.i64.wrap (x13598.From * b.States)) + x13775.From), (i11301 : Int), IntKind.i64.wrap ((IntKind.i64.wrap (x13598.To * b.States)) + x13775.To)⟩ : Edge)]).bind fun l13802 =>
        some l13802) (x13618.length) 0 l13297).bind (fun (l13676 : List Edge) => some l13676)) (x13032.length) 0 z12151).bind (fun (l13297 : List Edge) => some l13297)) a.Costs.length 0 [] = some (allP a b) := by
      have := forS_range a.Costs.length (rowP a b) (s0 := []) (B := fun i11301 => fun (z12151 : List Edge) => (idx L (i11301 : Int)).bind fun x13032 =>
        (forS (fun i13040 => fun (l13297 : List Edge) => (idx x13032 (i13040 : Int)).bind fun x13598 =>
        (idx M (i11301 : Int)).bind fun x13618 =>
        (forS (fun i13626 => fun (l13676 : List Edge) => (idx x13618 (i13626 : Int)).bind fun x13775 =>
        (app 24 l13676 [(⟨IntKind.i64.wrap ((IntKind.i64.wrap (x13598.From * b.States)) + x13775.From), (i11301 : Int), IntKind.i64.wrap ((IntKind.i64.wrap (x13598.To * b.States)) + x13775.To)⟩ : Edge)]).bind fun l13802 =>
        some l13802) (x13618.length) 0 l13297).bind (fun (l13676 : List Edge) => some l13676)) (x13032.length) 0 z12151).bind (fun (l13297 : List Edge) => some l13297)) ?_
      · simpa [allP] using this
      · intro l s hl hsl
        have hsl' : s.length ≤ 4096 * 65536 := by
          rw [hsl, List.nil_append]
          refine Nat.le_trans (flat_le (M := 65536) fun k _ => Nat.le_trans (rowP_le2 a b hM0 k) hm) ?_
          refine Nat.mul_le_mul_right _ ?_
          simp; omega
        simp only [idx_nat, hL2 l hl, hM2 l (by rw [← hc]; exact hl), Option.bind_some]
        rw [forS_list (rowsOf a l) (fun d => (rowsOf b l).map fun f => mkE b.States (l : Int) d f) (s0 := s)]
        · rfl
        · intro i d t hd ht
          have hdm := mem_rows.1 (List.mem_of_getElem? hd)
          have htl : t.length ≤ 4096 * 65536 + 65536 := by
            rw [ht, List.length_append]
            have : (((rowsOf a l).take i).flatMap fun d => (rowsOf b l).map fun f => mkE b.States (l : Int) d f).length ≤ M0 * b.Edges.length := by
              refine Nat.le_trans (flat_le (M := b.Edges.length) fun d _ => by rw [List.length_map]; exact rowsOf_le b l) (Nat.mul_le_mul_right _ ?_)
              have := hM0 l
              simp; omega
            omega
          simp only [hd, Option.bind_some]
          rw [forS_list (rowsOf b l) (fun f => [mkE b.States (l : Int) d f]) (s0 := t)]
          · simp [flat_one]
          · intro j f u hf hu
            have hfm := mem_rows.1 (List.mem_of_getElem? hf)
            have hul : u.length ≤ 4096 * 65536 + 65536 + 65536 := by
              rw [hu, List.length_append, flat_one, List.length_map, List.length_take]
              have := rowsOf_le b l
              omega
            simp only [hf, Option.bind_some]
            rw [mkE_wrap ha hb hdm.1 hfm.1, app_ok (by simp; omega)]
            rfl
    rw [hloop]
    simp only [Option.bind_some]
    obtain ⟨k, hk1, hk2, hk3⟩ := sort_spec (nodup_allP ha hb) (by
      refine Nat.lt_of_le_of_lt (flat_le (M := 65536) fun k _ => Nat.le_trans (rowP_le2 a b hM0 k) hm) ?_
      simp; omega)
    rw [show sortProd_p (allP a b) = sortEdges_p (allP a b) from rfl, hk1]
    simp only [Option.bind_some]
    refine Ok.ret ⟨rfl, ⟨rfl, rfl, hc.symm, rfl, hk2, fun e => (hk3 e).trans (mem_allP ha e)⟩, ?_⟩
    have hperm : k.Perm (allP a b) := (List.perm_ext_iff_of_nodup hk2.nodup (nodup_allP ha hb)).2 hk3
    show k.length ≤ _
    rw [hperm.length_eq]
    exact Nat.le_trans (allP_le a b hb hM0 _) (Nat.mul_le_mul_left _ (List.length_filter_le _ _))
theorem flat_lenP {α β : Type} {f : α → List β} {m : Nat} (hf : ∀ g, (f g).length = m) : ∀ gs : List α, (gs.flatMap f).length = gs.length * m
  | [] => by simp
  | g :: gs => by rw [List.flatMap_cons, List.length_append, hf, flat_lenP hf gs, List.length_cons, Nat.add_mul, Nat.one_mul, Nat.add_comm]
/-- The product of valid systems is valid. -/
theorem ProdRes.v {a b x : System} (h : ProdRes a b x) (ha : VSys a) (hb : VSys b) (hc : a.Costs = b.Costs) (hs : a.States * b.States ≤ 4096) (hl : x.Edges.length ≤ 65536) : VSys x := by
  have s1 := ha.s1; have s2 := hb.s1; have i0 := ha.i0; have i1 := ha.i1; have j0 := hb.i0; have j1 := hb.i1
  have g1 := ha.g; have g2 := hb.g
  have hlin : ∀ u v : Int, 0 ≤ u → u < a.States → 0 ≤ v → v < b.States → 0 ≤ u * b.States + v ∧ u * b.States + v < a.States * b.States := by
    intro u v h1 h2 h3 h4
    have e1 : 0 ≤ u * b.States := Int.mul_nonneg h1 (by omega)
    have e2 : (u + 1) * b.States ≤ a.States * b.States := Int.mul_le_mul_of_nonneg_right (by omega) (by omega)
    rw [Int.add_mul, Int.one_mul] at e2
    omega
  have hpos : 1 ≤ a.States * b.States := by
    have := hlin 0 0 (Int.le_refl _) (by omega) (Int.le_refl _) (by omega)
    omega
  have hi := hlin a.Init b.Init i0 i1 j0 j1
  refine ⟨by rw [h.s]; exact hpos, by rw [h.s]; exact hs, by rw [h.i]; exact hi.1, by rw [h.i, h.s]; exact hi.2, ?_, by rw [h.c]; exact ha.c, hl, by rw [h.c]; exact ha.cost, ?_, ?_⟩
  · rw [h.g, h.s, ← g1, ← g2]
    unfold goalsP
    rw [flat_lenP (m := b.Goals.length) fun g => by simp]
    simp
  · intro d hd
    obtain ⟨e, he, f, hf, hef, rfl⟩ := (h.e d).1 hd
    obtain ⟨a1, a2, a3, a4, a5, a6⟩ := ha.edge e he
    obtain ⟨b1, b2, b3, b4, b5, b6⟩ := hb.edge f hf
    have k1 := hlin e.From f.From a1 a2 b1 b2
    have k2 := hlin e.To f.To a3 a4 b3 b4
    rw [h.s, h.c]
    exact ⟨k1.1, k1.2, k2.1, k2.2, a5, a6⟩
  · intro i d e hd he
    have hp := List.pairwise_iff_getElem.1 h.o
    obtain ⟨h1, rfl⟩ := List.getElem?_eq_some_iff.1 hd
    obtain ⟨h2, rfl⟩ := List.getElem?_eq_some_iff.1 he
    exact hp i (i + 1) h1 h2 (by omega)
/-- Edges of one label: no more than pairs of states. -/
theorem rows_sq {x : System} (hv : VSys x) {n : Nat} (hn : x.States ≤ (n : Int)) (l : Nat) : (rowsOf x l).length ≤ n * n := by
  have hnd : (rowsOf x l).Nodup := List.Pairwise.filter _ (Srt.nodup hv.srt)
  have hinj : ((rowsOf x l).map fun d => d.From.toNat * n + d.To.toNat).Nodup := by
    refine List.pairwise_map.2 (hnd.imp_of_mem ?_)
    intro d e hd he hne heq
    obtain ⟨hd1, hd2⟩ := mem_rows.1 hd
    obtain ⟨he1, he2⟩ := mem_rows.1 he
    obtain ⟨a1, a2, a3, a4, _, _⟩ := hv.edge d hd1
    obtain ⟨b1, b2, b3, b4, _, _⟩ := hv.edge e he1
    have := lin_inj (n := (n : Int)) (x := (d.From.toNat : Int)) (y := (d.To.toNat : Int)) (x' := (e.From.toNat : Int)) (y' := (e.To.toNat : Int)) (by omega) (by omega) (by omega) (by omega) (by exact_mod_cast heq)
    apply hne
    obtain ⟨x1, x2, x3⟩ := d
    obtain ⟨y1, y2, y3⟩ := e
    simp only [Edge.mk.injEq] at *
    omega
  have := nodup_short' hinj (n := n * n) (by
    intro z hz
    obtain ⟨d, hd, rfl⟩ := List.mem_map.1 hz
    obtain ⟨hd1, _⟩ := mem_rows.1 hd
    obtain ⟨a1, a2, a3, a4, _, _⟩ := hv.edge d hd1
    have : (d.From.toNat + 1) * n ≤ n * n := Nat.mul_le_mul_right _ (by omega)
    rw [Nat.add_mul, Nat.one_mul] at this
    have : d.To.toNat < n := by omega
    omega)
  simpa using this
end Go.Pw
