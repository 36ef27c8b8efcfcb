/-
  The program's product and the reference's, in plain Lean: both are the product.
-/
import Derived.Test.YtdhfofhginfdnaaWhR
set_option maxHeartbeats 4000000
set_option linter.unusedSimpArgs false
set_option linter.unusedVariables false
namespace Go.Pw
open Classical in
theorem eq_loop {α β : Type} (t : α → α → Bool) (ht : ∀ x y, t x y = true ↔ x ≠ y) (xs ys : List α) (hl : xs.length = ys.length) {kr : Bool → Option β} {k : Unit → Option β} :
    ctl (forC (R := Bool) (fun i => fun (_ : Unit) => (idx xs (i : Int)).bind fun x => (idx ys (i : Int)).bind fun y => if t x y then some (Ctl.ret false) else some (Ctl.next ())) xs.length 0 ()) kr k = if xs = ys then k () else kr false := by
  rw [ctl_all (p := fun i => decide (xs[i]? = ys[i]?)) (r := false)]
  · by_cases h : xs = ys
    · subst h; simp
    · rw [if_neg h, if_neg]
      intro hall
      apply h
      apply List.ext_getElem?
      intro i
      by_cases hi : i < xs.length
      · have := List.all_eq_true.1 hall i (by simpa using hi)
        simpa using this
      · rw [List.getElem?_eq_none (by omega), List.getElem?_eq_none (by omega)]
  · intro i hi
    obtain ⟨x, hx⟩ := get_len hi
    obtain ⟨y, hy⟩ := get_len (show i < ys.length by omega)
    simp only [idx_nat, hx, hy, Option.bind_some, Option.some.injEq]
    by_cases e : x = y
    · have : t x y = false := by
        cases ht' : t x y with
        | false => rfl
        | true => exact absurd e ((ht x y).1 ht')
      subst e
      simp [this]
    · simp [(ht x y).2 e, e]
theorem Equal_p (xs ys : List Int) : slices_Equal___int_int__p xs ys = some (decide (xs = ys)) := by
  unfold slices_Equal___int_int__p
  by_cases h : xs.length = ys.length
  · rw [if_neg (by simp [h]), eq_loop (fun x y => !decide (x = y)) (by simp) xs ys h]
    by_cases e : xs = ys <;> simp [e]
  · rw [if_pos (by simp; omega)]
    have : xs ≠ ys := fun e => h (by rw [e])
    simp [this]
theorem Ints_p (xs ys : List Int) : base_Ints_p xs ys = some (decide (xs = ys)) := Equal_p xs ys
theorem rows_count (x : System) (hv : VSys x) (i : Nat) : (x.Edges.filter fun d => decide (d.Label < ((i + 1 : Nat) : Int))).length = (x.Edges.filter fun d => decide (d.Label < (i : Int))).length + (rowsOf x i).length := by
  unfold rowsOf
  have : ∀ l : List Edge, (l.filter fun d => decide (d.Label < ((i + 1 : Nat) : Int))).length = (l.filter fun d => decide (d.Label < (i : Int))).length + (l.filter fun d => decide (d.Label = (i : Int))).length := by
    intro l
    induction l with
    | nil => simp
    | cons d l ih =>
      simp only [List.filter_cons]
      by_cases h1 : d.Label < (i : Int)
      · have h2 : d.Label < ((i + 1 : Nat) : Int) := by omega
        have h3 : ¬ d.Label = (i : Int) := by omega
        simp only [h1, h2, h3, decide_true, decide_false, if_true, Bool.false_eq_true, if_false, List.length_cons]; omega
      · by_cases h3 : d.Label = (i : Int)
        · have h2 : d.Label < ((i + 1 : Nat) : Int) := by omega
          simp only [h1, h2, h3, decide_true, decide_false, if_true, Bool.false_eq_true, if_false, List.length_cons]
          have e1 : decide ((i : Int) < (i : Int)) = false := by simp
          have e2 : decide ((i : Int) < ((i + 1 : Nat) : Int)) = true := by simp; omega
          simp only [e1, e2, if_true, Bool.false_eq_true, if_false, List.length_cons]
          omega
        · have h2 : ¬ d.Label < ((i + 1 : Nat) : Int) := by omega
          simp only [h1, h2, h3, decide_true, decide_false, if_true, Bool.false_eq_true, if_false, List.length_cons]; omega
  exact this _
theorem product_ok {a b : System} (ha : VSys a) (hb : VSys b) (hc : a.Costs = b.Costs) (hs : a.States * b.States ≤ 4096) (hm : a.Edges.length * b.Edges.length ≤ 65536) :
    Ok (transys_Product_p a b) fun r => r.1 = none ∧ ProdRes a b r.2 := by
  unfold transys_Product_p
  have va := valB_iff.2 ha
  have vb := valB_iff.2 hb
  simp only [tV, va, vb, Equal_p, hc, Option.bind_some, Bool.not_true, Bool.false_eq_true, if_false, decide_true]
  have s1 := ha.s1; have s2 := ha.s2; have s3 := hb.s1; have s4 := hb.s2; have i0 := ha.i0; have i1 := ha.i1; have j0 := hb.i0; have j1 := hb.i1
  have g1 := ha.g; have g2 := hb.g; have c1 := ha.c; have c2 := hb.c; have e1 := ha.e; have e2 := hb.e
  have m1 := mul_bd (x := a.States) (n := b.States) (by omega) (by omega) (by omega) (by omega)
  have m2 := mul_bd (x := a.Init) (n := b.States) (by omega) (by omega) (by omega) (by omega)
  have w1 : IntKind.i64.wrap (a.States * b.States) = a.States * b.States := wrap_id (by omega) (by omega)
  have w2 : IntKind.i64.wrap (a.Init * b.States) = a.Init * b.States := wrap_id (by omega) (by omega)
  have w3 : IntKind.i64.wrap (a.Init * b.States + b.Init) = a.Init * b.States + b.Init := wrap_id (by omega) (by omega)
  rw [w1, w2, w3]
  have hng : ¬ 4096 < a.States * b.States := by omega
  simp only [hng, decide_false, Bool.false_eq_true, if_false]
  have hclone : slices_Clone___int_int__p b.Costs = some b.Costs := by
    unfold slices_Clone___int_int__p
    rw [app_ok (by simp; omega)]
    simp
  rw [hclone]
  simp only [Option.bind_some]
  refine Ok.must (by simp; omega) ?_
  have hga : a.States.toNat = a.Goals.length := by omega
  have hgb : b.States.toNat = b.Goals.length := by omega
  have hmust : must (decide (b.States ≤ 9223372036854775807)) = some () := by unfold must; rw [if_pos (by simp; omega)]
  simp only [hmust, Option.bind_some, hga, hgb]
  rw [goals_loop a b (by omega) (by omega) _ (fun _ _ => rfl)]
  simp only [Option.bind_some]
  obtain ⟨L, hL, hL1, hL2⟩ := labelled_spec a ha
  obtain ⟨M, hM, hM1, hM2⟩ := labelled_spec b hb
  rw [hL, hM]
  simp only [Option.bind_some, hL1]
  refine Ok.bind (Ok.forS (fun i many => 0 ≤ many ∧ many ≤ (((a.Edges.filter fun d => decide (d.Label < (i : Int))).length * b.Edges.length : Nat) : Int)) ?_ ?_ ?_)
  · constructor
    · exact Int.le_refl _
    · exact Int.natCast_nonneg _
  · rintro i many hi ⟨h1, h2⟩
    rw [idx_nat, hL2 i hi, idx_nat, hM2 i (by rw [← hc]; exact hi)]
    simp only [Option.bind_some]
    have hr1 := rowsOf_le a i
    have hr2 := rowsOf_le b i
    have hA := rows_count a ha i
    have hfl : (a.Edges.filter fun d => decide (d.Label < ((i + 1 : Nat) : Int))).length ≤ a.Edges.length := List.length_filter_le _ _
    have hprod : (rowsOf a i).length * (rowsOf b i).length ≤ (rowsOf a i).length * b.Edges.length := Nat.mul_le_mul_left _ hr2
    have htot : (a.Edges.filter fun d => decide (d.Label < ((i + 1 : Nat) : Int))).length * b.Edges.length ≤ a.Edges.length * b.Edges.length := Nat.mul_le_mul_right _ hfl
    have hsum : (a.Edges.filter fun d => decide (d.Label < ((i + 1 : Nat) : Int))).length * b.Edges.length = (a.Edges.filter fun d => decide (d.Label < (i : Int))).length * b.Edges.length + (rowsOf a i).length * b.Edges.length := by rw [hA, Nat.add_mul]
    have hcast : ((rowsOf a i).length : Int) * ((rowsOf b i).length : Int) = (((rowsOf a i).length * (rowsOf b i).length : Nat) : Int) := by simp
    rw [hcast, wrap_id (n := (((rowsOf a i).length * (rowsOf b i).length : Nat) : Int)) (by omega) (by omega), wrap_id (by omega) (by omega)]
    refine Ok.ret ⟨by omega, by omega⟩
  · rintro many ⟨h1, h2⟩
    have hfl : (a.Edges.filter fun d => decide (d.Label < ((a.Costs.length : Nat) : Int))).length ≤ a.Edges.length := List.length_filter_le _ _
    have htot : (a.Edges.filter fun d => decide (d.Label < ((a.Costs.length : Nat) : Int))).length * b.Edges.length ≤ a.Edges.length * b.Edges.length := Nat.mul_le_mul_right _ hfl
    have hno : ¬ 65536 < many := by omega
    simp only [hno, decide_false, Bool.false_eq_true, if_false]
    have hloop : forS (fun i11301 => fun (z12151 : List Edge) => (idx L (i11301 : Int)).bind fun x13032 =>
        (forS (fun i13040 => fun (l13297 : List Edge) => (idx x13032 (i13040 : Int)).bind fun x13598 =>
        (idx M (i11301 : Int)).bind fun x13618 =>
        (forS (fun i13626 => fun (l13676 : List Edge) => (idx x13618 (i13626 : Int)).bind fun x13775 =>
        (app 24 l13676 [(⟨IntKind.i64.wrap ((IntKind.i64.wrap (x13598.From * b.States)) + x13775.From), (i11301 : Int), IntKind.i64.wrap ((IntKind.i64.wrap (x13598.To * b.States)) + x13775.To)⟩ : Edge)]).bind fun l13802 =>
        some l13802) (x13618.length) 0 l13297).bind (fun (l13676 : List Edge) => some l13676)) (x13032.length) 0 z12151).bind (fun (l13297 : List Edge) => some l13297)) a.Costs.length 0 [] = some (allP a b) := by
      have := forS_range a.Costs.length (rowP a b) (s0 := []) (B := fun i11301 => fun (z12151 : List Edge) => (idx L (i11301 : Int)).bind fun x13032 =>
        (forS (fun i13040 => fun (l13297 : List Edge) => (idx x13032 (i13040 : Int)).bind fun x13598 =>
        (idx M (i11301 : Int)).bind fun x13618 =>
        (forS (fun i13626 => fun (l13676 : List Edge) => (idx x13618 (i13626 : Int)).bind fun x13775 =>
        (app 24 l13676 [(⟨IntKind.i64.wrap ((IntKind.i64.wrap (x13598.From * b.States)) + x13775.From), (i11301 : Int), IntKind.i64.wrap ((IntKind.i64.wrap (x13598.To * b.States)) + x13775.To)⟩ : Edge)]).bind fun l13802 =>
        some l13802) (x13618.length) 0 l13297).bind (fun (l13676 : List Edge) => some l13676)) (x13032.length) 0 z12151).bind (fun (l13297 : List Edge) => some l13297)) ?_
      · simpa [allP] using this
      · intro l s hl hsl
        have hsl' : s.length ≤ 4096 * 65536 := by
          rw [hsl, List.nil_append]
          refine Nat.le_trans (flat_le (M := 65536) fun k _ => Nat.le_trans (rowP_le a b k) hm) ?_
          refine Nat.mul_le_mul_right _ ?_
          simp; omega
        simp only [idx_nat, hL2 l hl, hM2 l (by rw [← hc]; exact hl), Option.bind_some]
        rw [forS_list (rowsOf a l) (fun d => (rowsOf b l).map fun f => mkE b.States (l : Int) d f) (s0 := s)]
        · rfl
        · intro i d t hd ht
          have hdm := mem_rows.1 (List.mem_of_getElem? hd)
          have htl : t.length ≤ 4096 * 65536 + 65536 := by
            rw [ht, List.length_append]
            have : (((rowsOf a l).take i).flatMap fun d => (rowsOf b l).map fun f => mkE b.States (l : Int) d f).length ≤ a.Edges.length * b.Edges.length := by
              refine Nat.le_trans (flat_le (M := b.Edges.length) fun d _ => by rw [List.length_map]; exact rowsOf_le b l) (Nat.mul_le_mul_right _ ?_)
              have := rowsOf_le a l
              simp; omega
            omega
          simp only [hd, Option.bind_some]
          rw [forS_list (rowsOf b l) (fun f => [mkE b.States (l : Int) d f]) (s0 := t)]
          · simp [flat_one]
          · intro j f u hf hu
            have hfm := mem_rows.1 (List.mem_of_getElem? hf)
            have hul : u.length ≤ 4096 * 65536 + 65536 + 65536 := by
              rw [hu, List.length_append, flat_one, List.length_map, List.length_take]
              have := rowsOf_le b l
              omega
            simp only [hf, Option.bind_some]
            rw [mkE_wrap ha hb hdm.1 hfm.1, app_ok (by simp; omega)]
            rfl
    rw [hloop]
    simp only [Option.bind_some]
    obtain ⟨k, hk1, hk2, hk3⟩ := sort_spec (nodup_allP ha hb) (by
      refine Nat.lt_of_le_of_lt (flat_le (M := 65536) fun k _ => Nat.le_trans (rowP_le a b k) hm) ?_
      simp; omega)
    rw [hk1]
    simp only [Option.bind_some]
    exact Ok.ret ⟨rfl, rfl, rfl, hc.symm, rfl, hk2, fun e => (hk3 e).trans (mem_allP ha e)⟩
end Go.Pw
