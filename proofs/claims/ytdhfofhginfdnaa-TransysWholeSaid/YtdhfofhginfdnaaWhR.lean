/-
  The product of two valid systems, in plain Lean: what the program and the reference compute.
-/
import Derived.Test.YtdhfofhginfdnaaWhE
set_option maxHeartbeats 4000000
set_option linter.unusedSimpArgs false
set_option linter.unusedVariables false
namespace Go.Pw
theorem forS_list {α β : Type} (xs : List α) (g : α → List β) {B : Nat → List β → Option (List β)} {s0 : List β} (h : ∀ i y s, xs[i]? = some y → s = s0 ++ (xs.take i).flatMap g → B i s = some (s ++ g y)) :
    forS B xs.length 0 s0 = some (s0 ++ xs.flatMap g) := by
  refine Ok.eq (Ok.forS (fun i s => s = s0 ++ (xs.take i).flatMap g) (by simp) ?_ (fun s hs => by rw [hs, List.take_length]))
  intro i s hi hs
  obtain ⟨y, hy⟩ := get_len hi
  refine Ok.of (h i y s hy hs) ?_
  rw [hs, List.append_assoc]
  congr 1
  rw [List.take_add_one, hy]
  simp [List.flatMap_append]
theorem forS_range {β : Type} (n : Nat) (g : Nat → List β) {B : Nat → List β → Option (List β)} {s0 : List β} (h : ∀ i s, i < n → s = s0 ++ (List.range i).flatMap g → B i s = some (s ++ g i)) :
    forS B n 0 s0 = some (s0 ++ (List.range n).flatMap g) := by
  refine Ok.eq (Ok.forS (fun i s => s = s0 ++ (List.range i).flatMap g) (by simp) ?_ (fun s hs => hs))
  intro i s hi hs
  refine Ok.of (h i s hi hs) ?_
  rw [hs, List.append_assoc]
  congr 1
  rw [List.range_succ]
  simp [List.flatMap_append]
theorem flat_le {α β : Type} {g : α → List β} {M : Nat} : ∀ {xs : List α}, (∀ x ∈ xs, (g x).length ≤ M) → (xs.flatMap g).length ≤ xs.length * M
  | [], _ => by simp
  | x :: xs, h => by
    rw [List.flatMap_cons, List.length_append, List.length_cons, Nat.add_mul, Nat.one_mul]
    have h1 := h x (by simp)
    have h2 := flat_le (xs := xs) (g := g) (M := M) fun y hy => h y (by simp [hy])
    omega
theorem flat_one {α β : Type} {g : α → β} (xs : List α) : xs.flatMap (fun y => [g y]) = xs.map g := by
  induction xs with
  | nil => rfl
  | cons x xs ih => simp [ih]
def goalsP (a b : System) : List Bool := a.Goals.flatMap fun g => b.Goals.map fun h => g && h
theorem goals_loop (a b : System) (ha : a.Goals.length ≤ 4096) (hb : b.Goals.length ≤ 4096) (B : Nat → List Bool → Option (List Bool))
    (hB : ∀ i z, B i z = (forS (fun j => fun (l : List Bool) => ((idx a.Goals (i : Int)).bind fun x => if x then ((idx b.Goals (j : Int)).bind fun y => (app 1 l [y]).bind fun l' => some l') else ((app 1 l [false]).bind fun l' => some l')).bind (fun (l' : List Bool) => some l')) b.Goals.length 0 z).bind (fun (l : List Bool) => some l)) :
    forS B a.Goals.length 0 [] = some (goalsP a b) := by
  have := forS_list a.Goals (fun g => b.Goals.map fun h => g && h) (B := B) (s0 := []) ?_
  · simpa [goalsP] using this
  intro i g s hg hs
  have hi : i < a.Goals.length := (List.getElem?_eq_some_iff.1 hg).1
  have hsl : s.length ≤ 4096 * 4096 := by
    rw [hs, List.nil_append]
    refine Nat.le_trans (flat_le (M := b.Goals.length) (by simp)) ?_
    refine Nat.mul_le_mul ?_ hb
    simp; omega
  rw [hB, forS_list b.Goals (fun h => [g && h]) (s0 := s) ?_]
  · simp [flat_one]
  · intro j h t hh ht
    have hj : j < b.Goals.length := (List.getElem?_eq_some_iff.1 hh).1
    have htl : t.length ≤ 4096 * 4096 + 4096 := by
      rw [ht, List.length_append, flat_one, List.length_map, List.length_take]; omega
    simp only [idx_nat, hg, hh, Option.bind_some]
    cases g with
    | true => simp only [if_true]; rw [app_ok (by simp; omega)]; simp
    | false => simp only [Bool.false_eq_true, if_false]; rw [app_ok (by simp; omega)]; simp
def rowsOf (x : System) (l : Nat) : List Edge := x.Edges.filter fun d => decide (d.Label = (l : Int))
theorem rowsOf_le (x : System) (l : Nat) : (rowsOf x l).length ≤ x.Edges.length := List.length_filter_le _ _
theorem labelled_spec (x : System) (hv : VSys x) : Ok (transys_labelled_p x) fun L => L.length = x.Costs.length ∧ ∀ l, l < x.Costs.length → L[l]? = some (rowsOf x l) := by
  unfold transys_labelled_p
  have hc := hv.c
  have he := hv.e
  refine Ok.step (mk_ok (by omega) (by omega)) (Ok.bind ?_)
  refine Ok.forS (fun i L => L.length = x.Costs.length ∧ ∀ l, l < x.Costs.length → L[l]? = some ((x.Edges.take i).filter fun d => decide (d.Label = (l : Int)))) ?_ ?_ ?_
  · refine ⟨by simp, fun l hl => ?_⟩
    simp [hl]
  · rintro i L hi ⟨h1, h2⟩
    obtain ⟨d, hd⟩ := get_len hi
    obtain ⟨e1, e2, e3, e4, e5, e6⟩ := hv.edge d (List.mem_of_getElem? hd)
    obtain ⟨l, hl⟩ : ∃ l : Nat, d.Label = (l : Int) := ⟨d.Label.toNat, by omega⟩
    have hlc : l < x.Costs.length := by omega
    rw [idx_nat, hd]
    simp only [Option.bind_some, hl, idx_nat, h2 l hlc]
    have hlen : ((x.Edges.take i).filter fun d => decide (d.Label = (l : Int))).length ≤ 65536 := by
      refine Nat.le_trans (List.length_filter_le _ _) ?_
      simp; omega
    refine Ok.step (app_ok (by simp only [List.length_singleton]; omega)) (Ok.step (setI_nat (by omega)) (Ok.ret ⟨by simp [h1], fun k hk => ?_⟩))
    rw [List.take_add_one, hd]
    by_cases e : k = l
    · subst e
      simp [h1, hk, List.filter_append, hl]
    · rw [List.getElem?_set_ne (Ne.symm e), h2 k hk]
      have : ¬ (d.Label = (k : Int)) := by omega
      simp [List.filter_append, this]
  · rintro L ⟨h1, h2⟩
    exact Ok.ret ⟨h1, fun l hl => by rw [h2 l hl, List.take_length]; rfl⟩
def mkE (n : Int) (l : Int) (d f : Edge) : Edge := ⟨d.From * n + f.From, l, d.To * n + f.To⟩
def PE (a b : System) (e : Edge) : Prop := ∃ d ∈ a.Edges, ∃ f ∈ b.Edges, d.Label = f.Label ∧ e = mkE b.States d.Label d f
structure ProdRes (a b x : System) : Prop where
  s : x.States = a.States * b.States
  i : x.Init = a.Init * b.States + b.Init
  c : x.Costs = a.Costs
  g : x.Goals = goalsP a b
  o : Srt x.Edges
  e : ∀ e, e ∈ x.Edges ↔ PE a b e
theorem ProdRes.uniq {a b x y : System} (h : ProdRes a b x) (k : ProdRes a b y) : x = y := by
  have he : x.Edges = y.Edges := h.o.ext k.o fun e => (h.e e).trans (k.e e).symm
  obtain ⟨x1, x2, x3, x4, x5⟩ := x
  obtain ⟨y1, y2, y3, y4, y5⟩ := y
  have h1 := h.s.trans k.s.symm
  have h2 := h.i.trans k.i.symm
  have h3 := h.c.trans k.c.symm
  have h4 := h.g.trans k.g.symm
  simp only at *
  subst h1 h2 h3 h4 he
  rfl
theorem lin_inj {n x y x' y' : Int} (h0 : 0 ≤ y) (h1 : y < n) (h2 : 0 ≤ y') (h3 : y' < n) (h : x * n + y = x' * n + y') : x = x' ∧ y = y' := by
  have hn : 0 < n := by omega
  rcases Int.lt_trichotomy x x' with hlt | heq | hgt
  · have : (x + 1) * n ≤ x' * n := Int.mul_le_mul_of_nonneg_right (by omega) (by omega)
    rw [Int.add_mul, Int.one_mul] at this
    omega
  · subst heq; exact ⟨rfl, by omega⟩
  · have : (x' + 1) * n ≤ x * n := Int.mul_le_mul_of_nonneg_right (by omega) (by omega)
    rw [Int.add_mul, Int.one_mul] at this
    omega
theorem mul_bd {x n : Int} (h0 : 0 ≤ x) (h1 : x ≤ 4096) (h2 : 0 ≤ n) (h3 : n ≤ 4096) : 0 ≤ x * n ∧ x * n ≤ 16777216 := by
  refine ⟨Int.mul_nonneg h0 h2, ?_⟩
  have : x * n ≤ 4096 * 4096 := Int.mul_le_mul h1 h3 h2 (by omega)
  omega
theorem mkE_wrap {a b : System} (ha : VSys a) (hb : VSys b) {d f : Edge} (hd : d ∈ a.Edges) (hf : f ∈ b.Edges) (l : Int) :
    (⟨IntKind.i64.wrap ((IntKind.i64.wrap (d.From * b.States)) + f.From), l, IntKind.i64.wrap ((IntKind.i64.wrap (d.To * b.States)) + f.To)⟩ : Edge) = mkE b.States l d f := by
  obtain ⟨d1, d2, d3, d4, _, _⟩ := ha.edge d hd
  obtain ⟨f1, f2, f3, f4, _, _⟩ := hb.edge f hf
  have s1 := ha.s2
  have s2 := hb.s1
  have s3 := hb.s2
  have m1 := mul_bd (x := d.From) (n := b.States) d1 (by omega) (by omega) (by omega)
  have m2 := mul_bd (x := d.To) (n := b.States) d3 (by omega) (by omega) (by omega)
  have w1 : IntKind.i64.wrap (d.From * b.States) = d.From * b.States := wrap_id (by omega) (by omega)
  have w2 : IntKind.i64.wrap (d.To * b.States) = d.To * b.States := wrap_id (by omega) (by omega)
  rw [w1, w2, wrap_id (by omega) (by omega), wrap_id (by omega) (by omega)]
  rfl
theorem VSys.srt {x : System} (h : VSys x) : Srt x.Edges := by
  refine List.pairwise_iff_getElem.2 ?_
  intro i j hi hj hij
  obtain ⟨k, rfl⟩ : ∃ k, j = i + 1 + k := ⟨j - i - 1, by omega⟩
  clear hij
  induction k with
  | zero => exact h.ord i _ _ (by simp [hi]) (by simp [show i + 1 < x.Edges.length by omega])
  | succ k ih => exact (ih (by omega)).trans (h.ord (i + 1 + k) _ _ (by simp [show i + 1 + k < x.Edges.length by omega]) (by simp [show i + 1 + k + 1 < x.Edges.length by omega]; rfl))
def rowP (a b : System) (l : Nat) : List Edge := (rowsOf a l).flatMap fun d => (rowsOf b l).map fun f => mkE b.States (l : Int) d f
def allP (a b : System) : List Edge := (List.range a.Costs.length).flatMap (rowP a b)
theorem mem_rows {x : System} {l : Nat} {d : Edge} : d ∈ rowsOf x l ↔ d ∈ x.Edges ∧ d.Label = (l : Int) := by simp [rowsOf]
theorem mem_allP {a b : System} (ha : VSys a) (e : Edge) : e ∈ allP a b ↔ PE a b e := by
  simp only [allP, rowP, List.mem_flatMap, List.mem_range, List.mem_map, mem_rows, PE]
  constructor
  · rintro ⟨l, hl, d, ⟨hd, hdl⟩, f, ⟨hf, hfl⟩, rfl⟩
    exact ⟨d, hd, f, hf, hdl.trans hfl.symm, by rw [hdl]⟩
  · rintro ⟨d, hd, f, hf, hdf, rfl⟩
    obtain ⟨e1, e2, e3, e4, e5, e6⟩ := ha.edge d hd
    obtain ⟨l, hl⟩ : ∃ l : Nat, d.Label = (l : Int) := ⟨d.Label.toNat, by omega⟩
    exact ⟨l, by omega, d, ⟨hd, hl⟩, f, ⟨hf, hdf ▸ hl⟩, by rw [hl]⟩
theorem nodup_allP {a b : System} (ha : VSys a) (hb : VSys b) : (allP a b).Nodup := by
  have na := ha.srt.nodup
  have nb := hb.srt.nodup
  unfold allP
  refine List.pairwise_flatMap.2 ⟨fun l _ => ?_, ?_⟩
  · unfold rowP
    refine List.pairwise_flatMap.2 ⟨fun d hd => ?_, ?_⟩
    · refine List.pairwise_map.2 ?_
      refine List.Pairwise.imp_of_mem ?_ (nb.sublist List.filter_sublist)
      intro f f' hf hf' hne heq
      apply hne
      obtain ⟨hf1, hf2⟩ := mem_rows.1 hf
      obtain ⟨hf1', hf2'⟩ := mem_rows.1 hf'
      simp only [mkE, Edge.mk.injEq] at heq
      obtain ⟨f1, f2, f3⟩ := f
      obtain ⟨g1, g2, g3⟩ := f'
      simp only [Edge.mk.injEq] at *
      omega
    · refine List.Pairwise.imp_of_mem ?_ (na.sublist List.filter_sublist)
      intro d d' hd hd' hne e he e' he' heq
      apply hne
      subst heq
      obtain ⟨f, hf, rfl⟩ := List.mem_map.1 he
      obtain ⟨f', hf', heq⟩ := List.mem_map.1 he'
      obtain ⟨hf1, hf2⟩ := mem_rows.1 hf
      obtain ⟨hf1', hf2'⟩ := mem_rows.1 hf'
      obtain ⟨hd1, hd2⟩ := mem_rows.1 hd
      obtain ⟨hd1', hd2'⟩ := mem_rows.1 hd'
      obtain ⟨a1, a2, a3, a4, _, _⟩ := hb.edge f hf1
      obtain ⟨b1, b2, b3, b4, _, _⟩ := hb.edge f' hf1'
      simp only [mkE, Edge.mk.injEq, true_and] at heq
      have h1 := lin_inj b1 b2 a1 a2 heq.1
      have h2 := lin_inj b3 b4 a3 a4 heq.2
      obtain ⟨x1, x2, x3⟩ := d
      obtain ⟨y1, y2, y3⟩ := d'
      simp only [Edge.mk.injEq] at *
      omega
  · refine List.Pairwise.imp ?_ (List.pairwise_lt_range (n := a.Costs.length))
    intro l l' hlt e he e' he' heq
    subst heq
    simp only [rowP, List.mem_flatMap, List.mem_map] at he he'
    obtain ⟨d, _, f, _, rfl⟩ := he
    obtain ⟨d', _, f', _, heq⟩ := he'
    simp only [mkE, Edge.mk.injEq] at heq
    omega
theorem rowP_le (a b : System) (l : Nat) : (rowP a b l).length ≤ a.Edges.length * b.Edges.length := by
  unfold rowP
  refine Nat.le_trans (flat_le (M := b.Edges.length) fun d _ => ?_) (Nat.mul_le_mul_right _ (rowsOf_le a l))
  rw [List.length_map]
  exact rowsOf_le b l
end Go.Pw
