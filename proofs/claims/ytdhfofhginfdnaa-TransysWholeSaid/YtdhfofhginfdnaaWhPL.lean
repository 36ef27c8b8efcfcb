/-
  The program's product, in plain Lean: few pairs of edges of a label are enough.
-/
import Derived.Test.YtdhfofhginfdnaaWhS
import Derived.Test.YtdhfofhginfdnaaB1
set_option maxHeartbeats 4000000
set_option linter.unusedSimpArgs false
set_option linter.unusedVariables false
namespace Go.Pw
theorem rowP_len (a b : System) (l : Nat) : (rowP a b l).length = (rowsOf a l).length * (rowsOf b l).length := by
  unfold rowP
  induction rowsOf a l with
  | nil => simp
  | cons d r ih => rw [List.flatMap_cons, List.length_append, ih, List.length_map, List.length_cons, Nat.succ_mul, Nat.add_comm]
theorem product_okL {a b : System} (ha : VSys a) (hb : VSys b) (hc : a.Costs = b.Costs) (hs : a.States * b.States ≤ 4096) {C : Nat} (hC : ∀ l, l < a.Costs.length → (rowsOf a l).length * (rowsOf b l).length ≤ C) (hm : C * a.Costs.length ≤ 65536) :
    Ok (transys_Product_p a b) fun r => r.1 = none ∧ ProdRes a b r.2 ∧ r.2.Edges.length ≤ C * a.Costs.length := by
  have hC1 : ∀ l, l < a.Costs.length → C ≤ 65536 := fun l hl => Nat.le_trans (Nat.le_mul_of_pos_right C (by omega)) hm
  unfold transys_Product_p
  have va := valB_iff.2 ha
  have vb := valB_iff.2 hb
  simp only [tV, va, vb, Equal_p, hc, Option.bind_some, Bool.not_true, Bool.false_eq_true, if_false, decide_true]
  have s1 := ha.s1; have s2 := ha.s2; have s3 := hb.s1; have s4 := hb.s2; have i0 := ha.i0; have i1 := ha.i1; have j0 := hb.i0; have j1 := hb.i1
  have g1 := ha.g; have g2 := hb.g; have c1 := ha.c; have c2 := hb.c; have e1 := ha.e; have e2 := hb.e
  have m1 := mul_bd (x := a.States) (n := b.States) (by omega) (by omega) (by omega) (by omega)
  have m2 := mul_bd (x := a.Init) (n := b.States) (by omega) (by omega) (by omega) (by omega)
  have w1 : IntKind.i64.wrap (a.States * b.States) = a.States * b.States := wrap_id (by omega) (by omega)
  have w2 : IntKind.i64.wrap (a.Init * b.States) = a.Init * b.States := wrap_id (by omega) (by omega)
  have w3 : IntKind.i64.wrap (a.Init * b.States + b.Init) = a.Init * b.States + b.Init := wrap_id (by omega) (by omega)
  rw [w1, w2, w3]
  have hng : ¬ 4096 < a.States * b.States := by omega
  simp only [hng, decide_false, Bool.false_eq_true, if_false]
  have hclone : slices_Clone___int_int__p b.Costs = some b.Costs := by
    unfold slices_Clone___int_int__p
    rw [app_ok (by simp; omega)]
    simp
  rw [hclone]
  simp only [Option.bind_some]
  refine Ok.must (by simp; omega) ?_
  have hga : a.States.toNat = a.Goals.length := by omega
  have hgb : b.States.toNat = b.Goals.length := by omega
  have hmust : must (decide (b.States ≤ 9223372036854775807)) = some () := by unfold must; rw [if_pos (by simp; omega)]
  simp only [hmust, Option.bind_some, hga, hgb]
  rw [goals_loop a b (by omega) (by omega) _ (fun _ _ => rfl)]
  simp only [Option.bind_some]
  obtain ⟨L, hL, hL1, hL2⟩ := labelled_spec a ha
  obtain ⟨M, hM, hM1, hM2⟩ := labelled_spec b hb
  rw [hL, hM]
  simp only [Option.bind_some, hL1]
  refine Ok.bind (Ok.forS (fun i many => 0 ≤ many ∧ many ≤ ((C * i : Nat) : Int)) ?_ ?_ ?_)
  · constructor
    · exact Int.le_refl _
    · exact Int.natCast_nonneg _
  · rintro i many hi ⟨h1, h2⟩
    rw [idx_nat, hL2 i hi, idx_nat, hM2 i (by rw [← hc]; exact hi)]
    simp only [Option.bind_some]
    have hprod := hC i hi
    have hc1 := hC1 i hi
    have htot : C * (i + 1) ≤ C * a.Costs.length := Nat.mul_le_mul_left _ hi
    have hsum : C * (i + 1) = C * i + C := Nat.mul_succ _ _
    have hcast : ((rowsOf a i).length : Int) * ((rowsOf b i).length : Int) = (((rowsOf a i).length * (rowsOf b i).length : Nat) : Int) := by simp
    rw [hcast, wrap_id (n := (((rowsOf a i).length * (rowsOf b i).length : Nat) : Int)) (by omega) (by omega), wrap_id (by omega) (by omega)]
    refine Ok.ret ⟨by omega, by omega⟩
  · rintro many ⟨h1, h2⟩
    have hno : ¬ 65536 < many := by omega
    simp only [hno, decide_false, Bool.false_eq_true, if_false]
    have hloop : forS (fun i11301 => fun (z12151 : List Edge) => (idx L (i11301 : Int)).bind fun x13032 =>
        (forS (fun i13040 => fun (l13297 : List Edge) => (idx x13032 (i13040 : Int)).bind fun x13598 =>
        (idx M (i11301 : Int)).bind fun x13618 =>
        (forS (fun i13626 => fun (l13676 : List Edge) => (idx x13618 (i13626 : Int)).bind fun x13775 =>
        (app 24 l13676 [(⟨IntKind.i64.wrap ((IntKind.i64.wrap (x13598.From * b.States)) + x13775.From), (i11301 : Int), IntKind.i64.wrap ((IntKind.i64.wrap (x13598.To * b.States)) + x13775.To)⟩ : Edge)]).bind fun l13802 =>
        some l13802) (x13618.length) 0 l13297).bind (fun (l13676 : List Edge) => some l13676)) (x13032.length) 0 z12151).bind (fun (l13297 : List Edge) => some l13297)) a.Costs.length 0 [] = some (allP a b) := by
      have := forS_range a.Costs.length (rowP a b) (s0 := []) (B := fun i11301 => fun (z12151 : List Edge) => (idx L (i11301 : Int)).bind fun x13032 =>
        (forS (fun i13040 => fun (l13297 : List Edge) => (idx x13032 (i13040 : Int)).bind fun x13598 =>
        (idx M (i11301 : Int)).bind fun x13618 =>
        (forS (fun i13626 => fun (l13676 : List Edge) => (idx x13618 (i13626 : Int)).bind fun x13775 =>
        (app 24 l13676 [(⟨IntKind.i64.wrap ((IntKind.i64.wrap (x13598.From * b.States)) + x13775.From), (i11301 : Int), IntKind.i64.wrap ((IntKind.i64.wrap (x13598.To * b.States)) + x13775.To)⟩ : Edge)]).bind fun l13802 =>
        some l13802) (x13618.length) 0 l13297).bind (fun (l13676 : List Edge) => some l13676)) (x13032.length) 0 z12151).bind (fun (l13297 : List Edge) => some l13297)) ?_
      · simpa [allP] using this
      · intro l s hl hsl
        have hsl' : s.length ≤ 4096 * 65536 := by
          rw [hsl, List.nil_append]
          have hfl := flat_le (xs := List.range l) (g := rowP a b) (M := C) fun k hk => by rw [rowP_len]; exact hC k (by have := List.mem_range.1 hk; omega)
          have hb2 : (List.range l).length * C ≤ 4096 * 65536 := Nat.mul_le_mul (by simp; omega) (hC1 l hl)
          omega
        have hCl := hC l hl
        have hC1l := hC1 l hl
        simp only [idx_nat, hL2 l hl, hM2 l (by rw [← hc]; exact hl), Option.bind_some]
        rw [forS_list (rowsOf a l) (fun d => (rowsOf b l).map fun f => mkE b.States (l : Int) d f) (s0 := s)]
        · rfl
        · intro i d t hd ht
          have hdm := mem_rows.1 (List.mem_of_getElem? hd)
          have htl : t.length ≤ 4096 * 65536 + 65536 := by
            rw [ht, List.length_append]
            have : (((rowsOf a l).take i).flatMap fun d => (rowsOf b l).map fun f => mkE b.States (l : Int) d f).length ≤ (rowsOf a l).length * (rowsOf b l).length := by
              refine Nat.le_trans (flat_le (M := (rowsOf b l).length) fun d _ => by rw [List.length_map]; exact Nat.le_refl _) (Nat.mul_le_mul_right _ ?_)
              simp; omega
            omega
          simp only [hd, Option.bind_some]
          rw [forS_list (rowsOf b l) (fun f => [mkE b.States (l : Int) d f]) (s0 := t)]
          · simp [flat_one]
          · intro j f u hf hu
            have hfm := mem_rows.1 (List.mem_of_getElem? hf)
            have hul : u.length ≤ 4096 * 65536 + 65536 + 65536 := by
              rw [hu, List.length_append, flat_one, List.length_map, List.length_take]
              have := rowsOf_le b l
              omega
            simp only [hf, Option.bind_some]
            rw [mkE_wrap ha hb hdm.1 hfm.1, app_ok (by simp; omega)]
            rfl
    rw [hloop]
    simp only [Option.bind_some]
    have hall : (allP a b).length ≤ C * a.Costs.length := by
      have := flat_le (xs := List.range a.Costs.length) (g := rowP a b) (M := C) fun k hk => by rw [rowP_len]; exact hC k (List.mem_range.1 hk)
      rw [List.length_range, Nat.mul_comm] at this
      exact this
    obtain ⟨k, hk1, hk2, hk3⟩ := sort_spec (nodup_allP ha hb) (by omega)
    rw [hk1]
    simp only [Option.bind_some]
    refine Ok.ret ⟨rfl, ⟨rfl, rfl, hc.symm, rfl, hk2, fun e => (hk3 e).trans (mem_allP ha e)⟩, ?_⟩
    have hperm : k.Perm (allP a b) := (List.perm_ext_iff_of_nodup hk2.nodup (nodup_allP ha hb)).2 hk3
    show k.length ≤ _
    rw [hperm.length_eq]
    have hall' := hall
    rw [hc] at hall'
    exact hall'
theorem flat_lenP {α β : Type} {f : α → List β} {m : Nat} (hf : ∀ g, (f g).length = m) : ∀ gs : List α, (gs.flatMap f).length = gs.length * m
  | [] => by simp
  | g :: gs => by rw [List.flatMap_cons, List.length_append, hf, flat_lenP hf gs, List.length_cons, Nat.add_mul, Nat.one_mul, Nat.add_comm]
/-- The product of valid systems is valid. -/
theorem ProdRes.v {a b x : System} (h : ProdRes a b x) (ha : VSys a) (hb : VSys b) (hc : a.Costs = b.Costs) (hs : a.States * b.States ≤ 4096) (hl : x.Edges.length ≤ 65536) : VSys x := by
  have s1 := ha.s1; have s2 := hb.s1; have i0 := ha.i0; have i1 := ha.i1; have j0 := hb.i0; have j1 := hb.i1
  have g1 := ha.g; have g2 := hb.g
  have hlin : ∀ u v : Int, 0 ≤ u → u < a.States → 0 ≤ v → v < b.States → 0 ≤ u * b.States + v ∧ u * b.States + v < a.States * b.States := by
    intro u v h1 h2 h3 h4
    have e1 : 0 ≤ u * b.States := Int.mul_nonneg h1 (by omega)
    have e2 : (u + 1) * b.States ≤ a.States * b.States := Int.mul_le_mul_of_nonneg_right (by omega) (by omega)
    rw [Int.add_mul, Int.one_mul] at e2
    omega
  have hpos : 1 ≤ a.States * b.States := by
    have := hlin 0 0 (Int.le_refl _) (by omega) (Int.le_refl _) (by omega)
    omega
  have hi := hlin a.Init b.Init i0 i1 j0 j1
  refine ⟨by rw [h.s]; exact hpos, by rw [h.s]; exact hs, by rw [h.i]; exact hi.1, by rw [h.i, h.s]; exact hi.2, ?_, by rw [h.c]; exact ha.c, hl, by rw [h.c]; exact ha.cost, ?_, ?_⟩
  · rw [h.g, h.s, ← g1, ← g2]
    unfold goalsP
    rw [flat_lenP (m := b.Goals.length) fun g => by simp]
    simp
  · intro d hd
    obtain ⟨e, he, f, hf, hef, rfl⟩ := (h.e d).1 hd
    obtain ⟨a1, a2, a3, a4, a5, a6⟩ := ha.edge e he
    obtain ⟨b1, b2, b3, b4, b5, b6⟩ := hb.edge f hf
    have k1 := hlin e.From f.From a1 a2 b1 b2
    have k2 := hlin e.To f.To a3 a4 b3 b4
    rw [h.s, h.c]
    exact ⟨k1.1, k1.2, k2.1, k2.2, a5, a6⟩
  · intro i d e hd he
    have hp := List.pairwise_iff_getElem.1 h.o
    obtain ⟨h1, rfl⟩ := List.getElem?_eq_some_iff.1 hd
    obtain ⟨h2, rfl⟩ := List.getElem?_eq_some_iff.1 he
    exact hp i (i + 1) h1 h2 (by omega)
end Go.Pw
