/-
  The quotient by classes, in plain Lean.
-/
import Derived.Test.YtagooehmocpcjaaDoorExMe
import Derived.Test.YtagooehmocpcjaaDoorExR0
set_option maxHeartbeats 4000000
set_option maxRecDepth 100000
set_option linter.unusedSimpArgs false
set_option linter.unusedVariables false
namespace Go.Pw
/-! ### which lists are classes -/
theorem cut_head {α : Type} {l : List α} {m : Nat} (h : m ≤ l.length) : cut l 0 (m : Int) = some (l.take m) := by
  unfold cut
  rw [if_pos (by omega)]
  simp
theorem classes_ok {c : List Int} {n : Nat} (hn : n ≤ 1000000) (hl : c.length = n) : Ok (shrink_classes_o_p c (n : Int)) fun r => (∃ K : Nat, KOK c n K ∧ r = ((K : Int), true)) ∨ ((¬ ∃ K, KOK c n K) ∧ r.2 = false) := by
  unfold shrink_classes_o_p
  rw [if_neg (by simp [hl])]
  refine Ok.step (mk_ok (by omega) (by omega)) ?_
  refine Ok.ctl (fun i (s : Int × List Bool) => s.2.length = n ∧ (∀ j, j < i → ∃ k : Nat, c[j]? = some (k : Int) ∧ (k : Int) < s.1) ∧ (∃ M : Nat, s.1 = (M : Int) ∧ M ≤ n ∧ (M = 0 ∨ ∃ j, j < i ∧ c[j]? = some ((M : Int) - 1))) ∧ ∀ b : Nat, s.2[b]? = some true ↔ b < n ∧ ∃ j, j < i ∧ c[j]? = some (b : Int)) (fun r => r = (0, false) ∧ ¬ ∃ K, KOK c n K) ⟨by simp, fun j h => absurd h (Nat.not_lt_zero _), ⟨0, rfl, Nat.zero_le _, .inl rfl⟩, fun b => ?_⟩ ?_ ?_ ?_
  · simp [List.getElem?_replicate]
  · rintro i ⟨m, l⟩ hi ⟨h1, h2, ⟨M, h3, h4, h5⟩, h6⟩
    simp only at h1 h2 h3 h5 h6
    subst h3
    obtain ⟨v, hv⟩ := get_some hi
    simp only [un2, idx_nat, hv, Option.bind_some]
    by_cases hb : v < 0 ∨ (n : Int) ≤ v
    · rw [if_pos (by simpa using hb)]
      refine Ok.ret ⟨rfl, ?_⟩
      rintro ⟨K, hK⟩
      obtain ⟨k, hk, hki⟩ := hK.rng i (by omega)
      rw [hv] at hki
      have := hK.le
      cases hki
      omega
    · rw [if_neg (by simpa using hb)]
      obtain ⟨k, rfl⟩ : ∃ k : Nat, v = (k : Int) := ⟨v.toNat, by omega⟩
      obtain ⟨y, hy⟩ := get_some (show k < l.length by omega)
      simp only [idx_nat, hy, Option.bind_some]
      rw [setI_nat (by omega), wrap_id (by omega) (by omega)]
      refine Ok.ret ⟨by simp [h1], fun j hj => ?_, ?_, fun b => ?_⟩
      · by_cases e : j = i
        · subst e; exact ⟨k, hv, by simp only; omega⟩
        · obtain ⟨q, hq1, hq2⟩ := h2 j (by omega); exact ⟨q, hq1, by simp only; omega⟩
      · by_cases hM : (M : Int) ≤ (k : Int) + 1
        · exact ⟨k + 1, by simp only; rw [Int.max_eq_right hM]; rfl, by omega, .inr ⟨i, by omega, by rw [hv]; congr 1; omega⟩⟩
        · refine ⟨M, by simp only; rw [Int.max_eq_left (by omega)], h4, ?_⟩
          rcases h5 with h5 | ⟨j, hj, hj2⟩
          · exact .inl h5
          · exact .inr ⟨j, by omega, hj2⟩
      · simp only
        by_cases e : b = k
        · subst e
          rw [List.getElem?_set_self (by omega)]
          simp only [true_iff]
          exact ⟨by omega, i, by omega, hv⟩
        · rw [List.getElem?_set_ne (Ne.symm e), h6 b]
          constructor
          · rintro ⟨a1, j, hj, hj2⟩; exact ⟨a1, j, by omega, hj2⟩
          · rintro ⟨a1, j, hj, hj2⟩
            by_cases ej : j = i
            · subst ej; rw [hv] at hj2; simp at hj2; omega
            · exact ⟨a1, j, by omega, hj2⟩
  · rintro r ⟨rfl, h⟩
    exact Ok.ret (.inr ⟨h, rfl⟩)
  · rintro ⟨m, l⟩ ⟨h1, h2, ⟨M, h3, h4, h5⟩, h6⟩
    simp only at h1 h2 h3 h5 h6
    rw [hl] at h2 h5 h6
    subst h3
    simp only [un2]
    rw [cut_head (by omega)]
    simp only [Option.bind_some]
    have hlt : (l.take M).length = M := by simp; omega
    rw [ctl_all (p := fun b => decide (l[b]? = some true)) (r := (0, false)) ?_]
    · by_cases hall : ∀ b, b < M → l[b]? = some true
      · rw [hlt, if_pos (List.all_eq_true.2 fun b hb => by simpa using hall b (by simpa using hb))]
        refine Ok.ret (.inl ⟨M, ⟨hl, fun i hi => ?_, fun b hb => ?_, h4⟩, rfl⟩)
        · obtain ⟨k, hk1, hk2⟩ := h2 i hi
          exact ⟨k, by omega, hk1⟩
        · obtain ⟨_, j, hj, hj2⟩ := (h6 b).1 (hall b hb)
          exact ⟨j, hj, hj2⟩
      · rw [hlt, if_neg ?_]
        · refine Ok.ret (.inr ⟨?_, rfl⟩)
          rintro ⟨K, hK⟩
          apply hall
          intro b hb
          have hMK : M ≤ K := by
            rcases h5 with h5 | ⟨j, hj, hj2⟩
            · omega
            · obtain ⟨k, hk, hkj⟩ := hK.rng j hj
              rw [hkj] at hj2; simp at hj2; omega
          obtain ⟨j, hj, hj2⟩ := hK.onto b (by omega)
          exact (h6 b).2 ⟨by omega, j, hj, hj2⟩
        · intro h
          apply hall
          intro b hb
          have := List.all_eq_true.1 h b (by simpa using hb)
          simpa using this
    · intro b hb
      obtain ⟨y, hy⟩ := get_some (show b < l.length by omega)
      have : (l.take M)[b]? = some y := by rw [List.getElem?_take_of_lt (by omega), hy]
      simp only [idx_nat, this, hy, Option.bind_some, Option.some.injEq]
      cases y <;> simp
theorem KOK.uniq {c : List Int} {n K L : Nat} (h : KOK c n K) (k : KOK c n L) : K = L := by
  have key : ∀ {K L : Nat}, KOK c n K → KOK c n L → K ≤ L := by
    intro K L h k
    rcases Nat.eq_zero_or_pos K with h0 | h0
    · omega
    · obtain ⟨i, hi, hi2⟩ := h.onto (K - 1) (by omega)
      obtain ⟨q, hq, hq2⟩ := k.rng i hi
      rw [hi2] at hq2; simp at hq2; omega
  have := key h k; have := key k h; omega
/-! ### sorted edges, each once -/
theorem compactE_eq (s : List Edge) : api_Edge__o_p s = compactG (fun a b => eqs [a.From, a.Label, a.To] [b.From, b.Label, b.To]) ⟨0, 0, 0⟩ s := rfl
theorem eqs_edge (a b : Edge) : eqs [a.From, a.Label, a.To] [b.From, b.Label, b.To] = true ↔ a = b := by
  obtain ⟨a1, a2, a3⟩ := a
  obtain ⟨b1, b2, b3⟩ := b
  simp [eqs]
theorem order_ok {l : List Edge} (h : l.length ≤ 1000000) : Ok (shrink_order_o_p l) fun r => Srt r ∧ r.length ≤ l.length ∧ ∀ e, e ∈ r ↔ e ∈ l := by
  unfold shrink_order_o_p
  have hs : sortEdges_p l = some (l.mergeSort fun x y => !decide (cmpE y x < 0)) := by unfold sortEdges_p; rw [if_pos (by omega)]
  rw [hs]
  simp only [Option.bind_some, compactE_eq]
  have hlen : (l.mergeSort fun x y => !decide (cmpE y x < 0)).length = l.length := List.length_mergeSort l
  have hp : (l.mergeSort fun x y => !decide (cmpE y x < 0)).Pairwise (fun a b => ¬ EdLt b a) := by
    have : (l.mergeSort fun x y => !decide (cmpE y x < 0)).Pairwise (fun x y => (!decide (cmpE y x < 0)) = true) := by
      apply List.pairwise_mergeSort
      · intro a b c h1 h2
        simp only [Bool.not_eq_true', decide_eq_false_iff_not, cmpE_lt] at *
        intro h3
        rcases EdLt.tri a b with h | h | h
        · exact h2 (h3.trans h)
        · subst h; exact h2 h3
        · exact h1 h
      · intro a b
        simp only [Bool.or_eq_true, Bool.not_eq_true', decide_eq_false_iff_not, cmpE_lt]
        by_cases h : EdLt b a
        · exact .inr fun h' => EdLt.irrefl _ (h.trans h')
        · exact .inl h
    refine this.imp ?_
    intro a b h
    simpa [cmpE_lt] using h
  refine Ok.bind ((compact_ok eqs_edge ⟨0, 0, 0⟩ _ (by rw [hlen]; omega)).mono ?_)
  rintro ⟨k, r⟩ ⟨h1, h2, h3⟩
  simp only at h1 h2 h3
  simp only [un2]
  refine Ok.must (by simp; omega) (Ok.ret ?_)
  rw [h3]
  refine ⟨(dd_strict (le := fun a b => ¬ EdLt b a) (lt := EdLt) (fun a b h ne => (EdLt.tri a b).resolve_right fun h2 => h2.elim ne h) (fun a b c h1 h2 => ?_) (fun a b c h1 h2 h3 => ?_) _ none hp (by simp)).1, ?_, fun e => ?_⟩
  · rcases EdLt.tri a b with h | h | h
    · exact h.trans h2
    · subst h; exact h2
    · exact absurd h h1
  · rcases EdLt.tri a b with h | h | h
    · exact h2 (h3.trans h)
    · subst h; exact h2 h3
    · exact h1 h
  · have := dd_len (l.mergeSort fun x y => !decide (cmpE y x < 0)) none
    omega
  · rw [mem_dd]
    exact (List.mergeSort_perm l _).mem_iff
/-! ### the quotient -/
def mapE (c : List Int) (d : Edge) : Edge := ⟨(cN c d.From.toNat : Int), d.Label, (cN c d.To.toNat : Int)⟩
structure QRes (x : System) (c : List Int) (K : Nat) (y : System) : Prop where
  s : y.States = (K : Int)
  i : y.Init = (cN c x.Init.toNat : Int)
  cs : y.Costs = x.Costs
  gl : y.Goals.length = K
  g : ∀ b, b < K → y.Goals[b]? = some (goalB x c b)
  o : Srt y.Edges
  l : y.Edges.length ≤ x.Edges.length
  e : ∀ e, e ∈ y.Edges ↔ ∃ d ∈ x.Edges, e = mapE c d
theorem KOK.clsOf {c : List Int} {n K : Nat} (h : KOK c n K) : ClsOf c n K := by
  refine ⟨h.len, fun v hv => ?_⟩
  obtain ⟨i, hi⟩ := List.mem_iff_getElem?.1 hv
  have hin : i < n := by have := (List.getElem?_eq_some_iff.1 hi).1; rw [h.len] at this; exact this
  obtain ⟨k, hk, hki⟩ := h.rng i hin
  rw [hi] at hki; cases hki
  exact ⟨k, rfl, hk⟩
theorem quot_ok {x : System} (hv : VSys x) {c : List Int} {K : Nat} (hK : KOK c x.States.toNat K) : Ok (shrink_Quotient_o_p x c) fun r => r.1 = none ∧ QRes x c K r.2 := by
  unfold shrink_Quotient_o_p
  have s1 := hv.s1; have s2 := hv.s2; have i0 := hv.i0; have i1 := hv.i1; have hg := hv.g; have hcl := hv.c; have he := hv.e
  obtain ⟨n, hn⟩ : ∃ n : Nat, x.States = (n : Int) := ⟨x.States.toNat, by omega⟩
  have hnt : x.States.toNat = n := by omega
  rw [hnt] at hK
  have hc := hK.clsOf
  have hKn := hK.le
  have hcls : shrink_classes_o_p c x.States = some ((K : Int), true) := by
    rw [hn]
    obtain ⟨r, h1, h2⟩ := classes_ok (n := n) (by omega) hK.len
    rw [h1]
    rcases h2 with ⟨L, hL, rfl⟩ | ⟨h, _⟩
    · rw [hL.uniq hK]
    · exact absurd ⟨K, hK⟩ h
  rw [hcls]
  simp only [Option.bind_some, un2, tV, valB_iff.2 hv, Bool.not_true, Bool.false_eq_true, if_false]
  obtain ⟨q, hq⟩ : ∃ q : Nat, x.Init = (q : Int) := ⟨x.Init.toNat, by omega⟩
  have hci := (hc.get (i := q) (by omega)).1
  rw [hq, idx_nat, hci]
  have hclone : slices_Clone___int_int__p x.Costs = some x.Costs := by
    unfold slices_Clone___int_int__p
    rw [app_ok (by simp; omega)]
    simp
  simp only [Option.bind_some, hclone]
  refine Ok.step (mk_ok (by omega) (by omega)) (Ok.bind ?_)
  refine Ok.forS (fun m (l : List Bool) => l.length = K ∧ ∀ b, b < K → ∃ z, l[b]? = some z ∧ (z = true ↔ ∃ i, i < m ∧ c[i]? = some (b : Int) ∧ x.Goals[i]? = some true)) ⟨by simp, fun b hb => ⟨false, by simp [hb], by simp⟩⟩ ?_ ?_
  · rintro m l hm ⟨h1, h2⟩
    obtain ⟨g, hgm⟩ := get_some hm
    have hcm := hc.get (i := m) (by omega)
    obtain ⟨z, hz, hz2⟩ := h2 _ hcm.2
    simp only [idx_nat, hgm, hcm.1, hz, Option.bind_some]
    have key : ∀ w : Bool, (w = true ↔ z = true ∨ g = true) → ((l.set (cN c m) w).length = K ∧ ∀ b, b < K → ∃ z, (l.set (cN c m) w)[b]? = some z ∧ (z = true ↔ ∃ i, i < m + 1 ∧ c[i]? = some (b : Int) ∧ x.Goals[i]? = some true)) := by
      intro w hw
      refine ⟨by simp [h1], fun b hb => ?_⟩
      by_cases e : b = cN c m
      · subst e
        refine ⟨w, by rw [List.getElem?_set_self (by omega)], ?_⟩
        rw [hw, hz2]
        constructor
        · rintro (⟨i, a1, a2, a3⟩ | h)
          · exact ⟨i, by omega, a2, a3⟩
          · exact ⟨m, by omega, hcm.1, by rw [hgm, h]⟩
        · rintro ⟨i, a1, a2, a3⟩
          by_cases ei : i = m
          · subst ei; rw [hgm] at a3; cases a3; exact .inr rfl
          · exact .inl ⟨i, by omega, a2, a3⟩
      · obtain ⟨z', b1, b2⟩ := h2 b hb
        refine ⟨z', by rw [List.getElem?_set_ne (Ne.symm e)]; exact b1, ?_⟩
        rw [b2]
        constructor
        · rintro ⟨i, a1, a2, a3⟩; exact ⟨i, by omega, a2, a3⟩
        · rintro ⟨i, a1, a2, a3⟩
          by_cases ei : i = m
          · subst ei; rw [hcm.1] at a2; simp at a2; omega
          · exact ⟨i, by omega, a2, a3⟩
    cases z with
    | true =>
      simp only [if_true]
      rw [setI_nat (by omega)]
      exact Ok.ret (key true (by simp))
    | false =>
      simp only [Bool.false_eq_true, if_false]
      rw [setI_nat (by omega)]
      exact Ok.ret (key g (by simp))
  · rintro l ⟨h1, h2⟩
    have hloop : forS (fun i => fun (z : List Edge) => (idx x.Edges (i : Int)).bind fun d => (idx c d.From).bind fun a => (idx c d.To).bind fun b => (app 24 z [(⟨a, d.Label, b⟩ : Edge)]).bind fun z' => some z') x.Edges.length 0 [] = some (x.Edges.map (mapE c)) := by
      have := forS_list x.Edges (fun d => [mapE c d]) (s0 := []) (B := fun i => fun (z : List Edge) => (idx x.Edges (i : Int)).bind fun d => (idx c d.From).bind fun a => (idx c d.To).bind fun b => (app 24 z [(⟨a, d.Label, b⟩ : Edge)]).bind fun z' => some z') ?_
      · rw [List.nil_append, flat_one] at this; exact this
      · intro i d s hd hs
        have hsl : s.length ≤ 65536 := by rw [hs, List.nil_append, flat_one, List.length_map, List.length_take]; omega
        obtain ⟨f, lb, t, rfl, hf, ht, _⟩ := edge_nat hv (List.mem_of_getElem? hd)
        rw [hnt] at hf ht
        simp only [idx_nat, hd, (hc.get hf).1, (hc.get ht).1, Option.bind_some]
        rw [app_ok (by simp; omega)]
        simp [mapE]
    rw [hloop]
    simp only [Option.bind_some]
    refine Ok.bind ((order_ok (l := x.Edges.map (mapE c)) (by simp; omega)).mono ?_)
    rintro es ⟨e1, e2, e3⟩
    refine Ok.ret ⟨rfl, rfl, by simp [hq], rfl, h1, fun b hb => ?_, e1, by simpa using e2, fun e => ?_⟩
    · obtain ⟨z, b1, b2⟩ := h2 b hb
      simp only
      rw [b1]
      congr 1
      rw [Bool.eq_iff_iff, b2, goalB_iff]
      constructor
      · rintro ⟨i, _, a2, a3⟩; exact ⟨i, a2, a3⟩
      · rintro ⟨i, a2, a3⟩; exact ⟨i, (List.getElem?_eq_some_iff.1 a3).1, a2, a3⟩
    · simp only
      rw [e3]
      simp only [List.mem_map]
      constructor
      · rintro ⟨d, hd, rfl⟩; exact ⟨d, hd, rfl⟩
      · rintro ⟨d, hd, rfl⟩; exact ⟨d, hd, rfl⟩
theorem quot_bad {x : System} {c : List Int} (h : ¬ (VSys x ∧ ∃ K, KOK c x.States.toNat K)) (hl : c.length ≤ 1000000) : shrink_Quotient_o_p x c = some (some 2, ⟨0, 0, [], [], []⟩) := by
  unfold shrink_Quotient_o_p
  obtain ⟨⟨m, ok⟩, h1, h2⟩ : Ok (shrink_classes_o_p c x.States) fun r => r.2 = true → ∃ K, KOK c x.States.toNat K := by
    by_cases e : (c.length : Int) = x.States
    · rw [← e]
      refine (classes_ok (n := c.length) hl rfl).mono ?_
      rintro r (⟨K, hK, rfl⟩ | ⟨_, hf⟩)
      · intro _; exact ⟨K, by simpa using hK⟩
      · intro ht; rw [hf] at ht; cases ht
    · unfold shrink_classes_o_p
      rw [if_pos (by simpa using e)]
      exact Ok.ret (by simp)
  rw [h1]
  simp only [Option.bind_some, un2, tV]
  by_cases hv : VSys x
  · have : ok = false := by
      cases ok with
      | false => rfl
      | true => exact absurd ⟨hv, h2 rfl⟩ h
    subst this
    simp [valB_iff.2 hv]
  · have hvb : valB x = false := by
      cases hb : valB x with
      | false => rfl
      | true => exact absurd (valB_iff.1 hb) hv
    simp [hvb]
theorem QRes.v {x y : System} (hv : VSys x) {c : List Int} {K : Nat} (hK : KOK c x.States.toNat K) (h : QRes x c K y) : VSys y := by
  have s1 := hv.s1; have s2 := hv.s2; have i0 := hv.i0; have i1 := hv.i1
  have hc := hK.clsOf
  have hi := (hc.get (i := x.Init.toNat) (by omega)).2
  have hle := hK.le
  refine ⟨by rw [h.s]; omega, by rw [h.s]; omega, by rw [h.i]; omega, by rw [h.i, h.s]; omega, by rw [h.gl, h.s], by rw [h.cs]; exact hv.c, by have := h.l; have := hv.e; omega, by rw [h.cs]; exact hv.cost, fun e he => ?_, fun i a b ha hb => ?_⟩
  · obtain ⟨d, hd, rfl⟩ := (h.e e).1 he
    obtain ⟨f, l, t, rfl, hf, ht, hl⟩ := edge_nat hv hd
    have h1 := (hc.get hf).2
    have h2 := (hc.get ht).2
    simp only [mapE, Int.toNat_natCast, h.s, h.cs]
    omega
  · have := List.pairwise_iff_getElem.1 h.o i (i + 1) (List.getElem?_eq_some_iff.1 ha).1 (List.getElem?_eq_some_iff.1 hb).1 (by omega)
    rw [(List.getElem?_eq_some_iff.1 ha).2, (List.getElem?_eq_some_iff.1 hb).2] at this
    exact this
theorem QRes.edge {x y : System} (hv : VSys x) {c : List Int} {K : Nat} (h : QRes x c K y) {u l v : Nat} : edgeN y u l v ↔ ∃ i t, edgeN x i l t ∧ cN c i = u ∧ cN c t = v := by
  unfold edgeN
  rw [h.e]
  constructor
  · rintro ⟨d, hd, e⟩
    obtain ⟨f, l', t, rfl, _, _, _⟩ := edge_nat hv hd
    simp only [mapE, Int.toNat_natCast, Edge.mk.injEq] at e
    have : l' = l := by omega
    subst this
    exact ⟨f, t, hd, by omega, by omega⟩
  · rintro ⟨i, t, he, rfl, rfl⟩
    exact ⟨_, he, by simp [mapE]⟩
end Go.Pw
/-
  Relabelling by the first label of each class, in plain Lean.
-/
set_option maxHeartbeats 4000000
set_option maxRecDepth 100000
set_option linter.unusedSimpArgs false
set_option linter.unusedVariables false
namespace Go.Pw
/-- The first label of a class. -/
def IsL (c : List Int) (b : Int) (j : Nat) : Prop := c[j]? = some b ∧ ∀ i, i < j → c[i]? ≠ some b
theorem IsL.uniq {c : List Int} {b : Int} {i j : Nat} (h : IsL c b i) (k : IsL c b j) : i = j := by
  rcases Nat.lt_trichotomy i j with h1 | h1 | h1
  · exact absurd h.1 (k.2 i h1)
  · exact h1
  · exact absurd k.1 (h.2 j h1)
structure RelRes (x : System) (c : List Int) (y : System) : Prop where
  s : y.States = x.States
  i : y.Init = x.Init
  cs : y.Costs = x.Costs
  g : y.Goals = x.Goals
  o : Srt y.Edges
  l : y.Edges.length ≤ x.Edges.length
  e : ∀ e, e ∈ y.Edges ↔ ∃ d ∈ x.Edges, ∃ (b : Int) (r : Nat), c[d.Label.toNat]? = some b ∧ IsL c b r ∧ e = ⟨d.From, (r : Int), d.To⟩
theorem RelRes.v {x y : System} {c : List Int} (h : RelRes x c y) (hv : VSys x) (hc : c.length = x.Costs.length) : VSys y := by
  refine ⟨by rw [h.s]; exact hv.s1, by rw [h.s]; exact hv.s2, by rw [h.i]; exact hv.i0, by rw [h.i, h.s]; exact hv.i1, by rw [h.g, h.s]; exact hv.g, by rw [h.cs]; exact hv.c, Nat.le_trans h.l hv.e, by rw [h.cs]; exact hv.cost, ?_, ?_⟩
  · intro e he
    obtain ⟨d, hd, b, r, h1, h2, rfl⟩ := (h.e e).1 he
    obtain ⟨a1, a2, a3, a4, a5, a6⟩ := hv.edge d hd
    have := (List.getElem?_eq_some_iff.1 h2.1).1
    rw [h.s, h.cs]
    exact ⟨a1, a2, a3, a4, by simp only; omega, by simp only; omega⟩
  · intro i d e hd he
    have hp := List.pairwise_iff_getElem.1 h.o
    obtain ⟨h1, rfl⟩ := List.getElem?_eq_some_iff.1 hd
    obtain ⟨h2, rfl⟩ := List.getElem?_eq_some_iff.1 he
    exact hp i (i + 1) h1 h2 (by omega)
theorem relabel_ok {x : System} (hv : VSys x) {c : List Int} {K : Nat} (hK : KOK c x.Costs.length K) (hcost : ∀ a b, a < x.Costs.length → b < x.Costs.length → c[a]? = c[b]? → x.Costs[a]? = x.Costs[b]?) : Ok (shrink_Relabel_p x c) fun r => r.1 = none ∧ RelRes x c r.2 := by
  unfold shrink_Relabel_p
  have hcl := hv.c; have he := hv.e; have hg := hv.g; have s2 := hv.s2; have hle := hK.le; have hlen := hK.len
  have hcls : shrink_classes_p c (x.Costs.length : Int) = some ((K : Int), true) := by
    show shrink_classes_o_p c (x.Costs.length : Int) = _
    obtain ⟨r, h1, h2⟩ := classes_ok (n := x.Costs.length) (by omega) hK.len
    rw [h1]
    rcases h2 with ⟨L, hL, rfl⟩ | ⟨h, _⟩
    · rw [hL.uniq hK]
    · exact absurd ⟨K, hK⟩ h
  rw [hcls]
  simp only [Option.bind_some, un2, tV, valB_iff.2 hv, Bool.not_true, Bool.false_eq_true, if_false]
  refine Ok.step (mk_ok (by omega) (by omega)) ?_
  rw [wrap_id (by omega) (by omega)]
  refine Ok.while (fun s : Int × List Int => ∃ m : Nat, s.1 = (m : Int) - 1 ∧ m ≤ x.Costs.length ∧ s.2.length = K ∧ ∀ b : Nat, b < K → (∃ i, m ≤ i ∧ c[i]? = some (b : Int)) → ∃ j : Nat, s.2[b]? = some (j : Int) ∧ c[j]? = some (b : Int) ∧ ∀ i, m ≤ i → i < j → c[i]? ≠ some (b : Int))
    (fun s => s.2.length = K ∧ ∀ b : Nat, b < K → ∃ j : Nat, s.2[b]? = some (j : Int) ∧ IsL c (b : Int) j) (fun _ => False) (fun s => (s.1 + 1).toNat) ⟨x.Costs.length, by simp only; omega, Nat.le_refl _, by simp, ?_⟩ ?_ (fun _ h => h.elim) ?_
  · rintro b hb ⟨i, hi, hi2⟩
    have := (List.getElem?_eq_some_iff.1 hi2).1
    omega
  · rintro ⟨at_, L⟩ ⟨m, h1, h2, h3, h4⟩
    simp only at h1 h3 h4
    subst h1
    cases m with
    | zero =>
      refine ⟨_, by simp only [un2]; rw [if_neg (by simp)], (fun _ h => by cases h), ?_, fun _ h => by cases h⟩
      intro s' hs
      cases hs
      refine ⟨h3, fun b hb => ?_⟩
      obtain ⟨i, _, hi2⟩ := hK.onto b hb
      obtain ⟨j, a1, a2, a3⟩ := h4 b hb ⟨i, Nat.zero_le _, hi2⟩
      exact ⟨j, a1, a2, fun i hi => a3 i (Nat.zero_le _) hi⟩
    | succ m =>
      obtain ⟨k, hk, hkc⟩ := hK.rng m (by omega)
      obtain ⟨z, hz⟩ := get_some (show k < L.length by omega)
      have e1 : ((m + 1 : Nat) : Int) - 1 = (m : Int) := by omega
      refine ⟨.next ((m : Int) - 1, L.set k (m : Int)), ?_, ?_, (fun _ h => by cases h), fun _ h => by cases h⟩
      · simp only [un2, e1]
        rw [if_pos (by simp)]
        simp only [idx_nat, hkc, hz, Option.bind_some]
        rw [setI_nat (by omega), wrap_id (by omega) (by omega)]
        rfl
      · intro s' hs
        cases hs
        refine ⟨⟨m, rfl, by omega, by simp [h3], fun b hb hex => ?_⟩, by simp only; omega⟩
        by_cases e : b = k
        · subst e
          exact ⟨m, by simp only; rw [List.getElem?_set_self (by omega)], hkc, fun i h1 h2 => by omega⟩
        · obtain ⟨i, hi, hi2⟩ := hex
          have him : i ≠ m := by
            intro e'
            subst e'
            rw [hkc] at hi2
            simp at hi2
            omega
          obtain ⟨j, a1, a2, a3⟩ := h4 b hb ⟨i, by omega, hi2⟩
          refine ⟨j, by simp only; rw [List.getElem?_set_ne (Ne.symm e)]; exact a1, a2, fun i h1 h2 => ?_⟩
          by_cases e' : i = m
          · subst e'
            rw [hkc]
            simp
            omega
          · exact a3 i (by omega) h2
  · rintro ⟨at_, L⟩ ⟨h1, h2⟩
    simp only at h1 h2
    simp only [un2]
    rw [ctl_all (p := fun _ => true) (r := (some 2, (⟨0, 0, [], [], []⟩ : System))) ?_]
    · rw [if_pos (by simp)]
      have hcI : slices_Clone___int_int__p x.Costs = some x.Costs := by
        unfold slices_Clone___int_int__p
        rw [app_ok (by simp; omega)]
        simp
      have hcB : slices_Clone___bool_bool__p x.Goals = some x.Goals := by
        unfold slices_Clone___bool_bool__p
        rw [app_ok (by simp; omega)]
        simp
      simp only [hcI, hcB, Option.bind_some]
      have hlab : ∀ d ∈ x.Edges, ∃ (b : Nat) (r : Nat), c[d.Label.toNat]? = some (b : Int) ∧ idx c d.Label = some (b : Int) ∧ L[b]? = some (r : Int) ∧ IsL c (b : Int) r := by
        intro d hd
        obtain ⟨f, lb, t, rfl, _, _, hlb⟩ := edge_nat hv hd
        obtain ⟨b, hb, hbc⟩ := hK.rng lb hlb
        obtain ⟨r, hr, hr2⟩ := h2 b hb
        exact ⟨b, r, by simpa using hbc, by simp only [idx_nat]; exact hbc, hr, hr2⟩
      have hloop : forS (fun i => fun (z : List Edge) => (idx x.Edges (i : Int)).bind fun d => (idx c d.Label).bind fun a => (idx L a).bind fun b => (app 24 z [(⟨d.From, b, d.To⟩ : Edge)]).bind fun z' => some z') x.Edges.length 0 [] = some (x.Edges.map fun d => ⟨d.From, (L[(c[d.Label.toNat]?.getD 0).toNat]?.getD 0), d.To⟩) := by
        have := forS_list x.Edges (fun d => [(⟨d.From, (L[(c[d.Label.toNat]?.getD 0).toNat]?.getD 0), d.To⟩ : Edge)]) (s0 := []) (B := fun i => fun (z : List Edge) => (idx x.Edges (i : Int)).bind fun d => (idx c d.Label).bind fun a => (idx L a).bind fun b => (app 24 z [(⟨d.From, b, d.To⟩ : Edge)]).bind fun z' => some z') ?_
        · rw [List.nil_append, flat_one] at this; exact this
        · intro i d s hd hs
          have hsl : s.length ≤ 65536 := by rw [hs, List.nil_append, flat_one, List.length_map, List.length_take]; omega
          obtain ⟨b, r, a1, a2, a3, a4⟩ := hlab d (List.mem_of_getElem? hd)
          simp only [idx_nat, hd, a2, a3, Option.bind_some]
          rw [app_ok (by simp; omega)]
          simp [a1, a3]
      rw [hloop]
      simp only [Option.bind_some]
      refine Ok.bind ((order_ok (l := x.Edges.map fun d => ⟨d.From, (L[(c[d.Label.toNat]?.getD 0).toNat]?.getD 0), d.To⟩) (by simp; omega)).mono ?_)
      rintro es ⟨e1, e2, e3⟩
      refine Ok.ret ⟨rfl, rfl, rfl, rfl, rfl, e1, by simpa using e2, fun e => ?_⟩
      show e ∈ es ↔ _
      rw [e3, List.mem_map]
      constructor
      · rintro ⟨d, hd, rfl⟩
        obtain ⟨b, r, a1, a2, a3, a4⟩ := hlab d hd
        exact ⟨d, hd, b, r, a1, a4, by simp [a1, a3]⟩
      · rintro ⟨d, hd, b', r', b1, b2, rfl⟩
        obtain ⟨b, r, a1, a2, a3, a4⟩ := hlab d hd
        rw [b1] at a1
        cases a1
        obtain rfl := b2.uniq a4
        exact ⟨d, hd, by simp [b1, a3]⟩
    · intro q hq
      obtain ⟨b, hb, hbc⟩ := hK.rng q (by omega)
      obtain ⟨z, hz⟩ := get_some (show q < x.Costs.length by omega)
      obtain ⟨j, hj, hjL⟩ := h2 b hb
      have hjn := (List.getElem?_eq_some_iff.1 hjL.1).1
      have hjz := hcost j q (by omega) (by omega) (by rw [hjL.1, hbc])
      rw [hz] at hjz
      simp only [idx_nat, hbc, hz, hj, hjz, Option.bind_some, decide_true, Bool.not_true, Bool.false_eq_true, if_false, if_true]
end Go.Pw
