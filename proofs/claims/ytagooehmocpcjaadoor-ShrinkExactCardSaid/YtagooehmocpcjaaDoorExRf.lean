/-
  The refinement of classes, in plain Lean: what 'refine' returns.
-/
import Derived.Test.YtagooehmocpcjaaDoorExI
import Derived.Test.YtagooehmocpcjaaDoorB3
set_option maxHeartbeats 4000000
set_option maxRecDepth 100000
set_option linter.unusedSimpArgs false
set_option linter.unusedVariables false
namespace Go.Pw
/-! ### pairs -/
def PrLt (a b : Arr2_int) : Prop := a.a0 < b.a0 ∨ a.a0 = b.a0 ∧ a.a1 < b.a1
def PrLe (a b : Arr2_int) : Prop := ¬ PrLt b a
theorem PrLt.irrefl (a : Arr2_int) : ¬ PrLt a a := by unfold PrLt; omega
theorem PrLt.tri (a b : Arr2_int) : PrLt a b ∨ a = b ∨ PrLt b a := by
  obtain ⟨a1, a2⟩ := a
  obtain ⟨b1, b2⟩ := b
  simp only [PrLt, Arr2_int.mk.injEq]
  omega
theorem strict_ext {α : Type} {lt : α → α → Prop} (ir : ∀ a, ¬ lt a a) (tr : ∀ a b c, lt a b → lt b c → lt a c) : ∀ {l k : List α}, l.Pairwise lt → k.Pairwise lt → (∀ e, e ∈ l ↔ e ∈ k) → l = k
  | [], [], _, _, _ => rfl
  | [], b :: k, _, _, h => absurd ((h b).2 (by simp)) (by simp)
  | a :: l, [], _, _, h => absurd ((h a).1 (by simp)) (by simp)
  | a :: l, b :: k, hl, hk, h => by
    obtain ⟨h1, h2⟩ := List.pairwise_cons.1 hl
    obtain ⟨k1, k2⟩ := List.pairwise_cons.1 hk
    have hab : a = b := by
      rcases List.mem_cons.1 ((h a).1 (by simp)) with e | e
      · exact e
      · rcases List.mem_cons.1 ((h b).2 (by simp)) with e' | e'
        · exact e'.symm
        · exact absurd (tr _ _ _ (h1 b e') (k1 a e)) (ir a)
    subst hab
    congr 1
    refine strict_ext ir tr h2 k2 fun e => ?_
    constructor
    · intro he
      rcases List.mem_cons.1 ((h e).1 (by simp [he])) with e1 | e1
      · subst e1; exact absurd (h1 e he) (ir e)
      · exact e1
    · intro he
      rcases List.mem_cons.1 ((h e).2 (by simp [he])) with e1 | e1
      · subst e1; exact absurd (k1 e he) (ir e)
      · exact e1
noncomputable def srtP (l : List Arr2_int) : List Arr2_int := l.mergeSort fun x y => !decide (cmpP y x < 0)
theorem sortPairs_eq {l : List Arr2_int} (h : l.length < 4611686018427387904) : sortPairs_p l = some (srtP l) := by unfold sortPairs_p; rw [if_pos h]; rfl
theorem srtP_le (l : List Arr2_int) : (srtP l).Pairwise PrLe := by
  have hp : (l.mergeSort fun x y => !decide (cmpP y x < 0)).Pairwise (fun x y => (!decide (cmpP y x < 0)) = true) := by
    apply List.pairwise_mergeSort
    · intro a b c h1 h2
      simp only [Bool.not_eq_true', decide_eq_false_iff_not, cmpP_neg] at *
      omega
    · intro a b
      simp only [Bool.or_eq_true, Bool.not_eq_true', decide_eq_false_iff_not, cmpP_neg]
      omega
  refine hp.imp ?_
  intro a b h
  simp only [Bool.not_eq_true', decide_eq_false_iff_not, cmpP_neg] at h
  exact h
theorem mem_srtP {l : List Arr2_int} {e : Arr2_int} : e ∈ srtP l ↔ e ∈ l := (List.mergeSort_perm l _).mem_iff
theorem srtP_len (l : List Arr2_int) : (srtP l).length = l.length := List.length_mergeSort l
theorem compactP_eq (s : List Arr2_int) : slices_Compact____2_int__2_int__o_p s = compactG (fun a b => eqs [a.a0, a.a1] [b.a0, b.a1]) ⟨0, 0⟩ s := rfl
theorem eqs_pair (a b : Arr2_int) : eqs [a.a0, a.a1] [b.a0, b.a1] = true ↔ a = b := by
  obtain ⟨a1, a2⟩ := a
  obtain ⟨b1, b2⟩ := b
  simp [eqs]
/-- The pairs of a row, sorted, each once. -/
noncomputable def normP (l : List Arr2_int) : List Arr2_int := dd none (srtP l)
theorem mem_normP {l : List Arr2_int} {e : Arr2_int} : e ∈ normP l ↔ e ∈ l := by unfold normP; rw [mem_dd, mem_srtP]
theorem normP_lt (l : List Arr2_int) : (normP l).Pairwise PrLt :=
  (dd_strict (le := PrLe) (lt := PrLt) (fun a b h ne => (PrLt.tri a b).resolve_right fun h2 => h2.elim ne h) (fun a b c h1 h2 => by unfold PrLe PrLt at *; omega) (fun a b c h1 h2 => by unfold PrLe PrLt at *; omega) (srtP l) none (srtP_le l) (by simp)).1
theorem normP_ext {l k : List Arr2_int} (h : ∀ e, e ∈ l ↔ e ∈ k) : normP l = normP k :=
  strict_ext PrLt.irrefl (fun a b c h1 h2 => by unfold PrLt at *; omega) (normP_lt l) (normP_lt k) fun e => by rw [mem_normP, mem_normP, h]
theorem normP_iff {l k : List Arr2_int} : normP l = normP k ↔ ∀ e, e ∈ l ↔ e ∈ k := ⟨fun h e => by rw [← mem_normP, h, mem_normP], normP_ext⟩

/-! ### a system as its goals and edges -/
def edgeN (x : System) (i l t : Nat) : Prop := (⟨(i : Int), (l : Int), (t : Int)⟩ : Edge) ∈ x.Edges
def TSof (x : System) (hv : VSys x) : TS where
  n := x.States.toNat
  goal := fun i => x.Goals[i]?.getD false
  edge := edgeN x
  rng := fun i l t h => by have := hv.edge _ h; simp only at this; omega
theorem edge_nat {x : System} (hv : VSys x) {d : Edge} (hd : d ∈ x.Edges) : ∃ i l t : Nat, d = ⟨(i : Int), (l : Int), (t : Int)⟩ ∧ i < x.States.toNat ∧ t < x.States.toNat ∧ l < x.Costs.length := by
  obtain ⟨h1, h2, h3, h4, h5, h6⟩ := hv.edge d hd
  refine ⟨d.From.toNat, d.Label.toNat, d.To.toNat, ?_, by omega, by omega, by omega⟩
  obtain ⟨f, l, t⟩ := d
  simp only [Edge.mk.injEq] at *
  omega

/-- Classes: numbers below a bound, one for each state. -/
def ClsOf (cls : List Int) (n b : Nat) : Prop := cls.length = n ∧ ∀ c ∈ cls, ∃ k : Nat, c = (k : Int) ∧ k < b
def cN (cls : List Int) (i : Nat) : Nat := (cls[i]?.getD 0).toNat
theorem ClsOf.get {cls : List Int} {n b i : Nat} (h : ClsOf cls n b) (hi : i < n) : cls[i]? = some (cN cls i : Int) ∧ cN cls i < b := by
  obtain ⟨y, hy⟩ := get_some (show i < cls.length by rw [h.1]; exact hi)
  obtain ⟨k, rfl, hk⟩ := h.2 y (List.mem_of_getElem? hy)
  unfold cN
  rw [hy]
  exact ⟨rfl, hk⟩
theorem cN_eq {cls : List Int} {n b i j : Nat} (h : ClsOf cls n b) (hi : i < n) (hj : j < n) : cN cls i = cN cls j ↔ eqL cls i j := by
  unfold eqL
  rw [(h.get hi).1, (h.get hj).1]
  simp
  omega
def prOf (cls : List Int) (d : Edge) : Arr2_int := ⟨d.Label, (cN cls d.To.toNat : Int)⟩
def rwP (x : System) (cls : List Int) (i m : Nat) : List Arr2_int := ((x.Edges.take m).filter fun d => decide (d.From = (i : Int))).map (prOf cls)
theorem rwP_len (x : System) (cls : List Int) (i m : Nat) : (rwP x cls i m).length ≤ x.Edges.length := by
  unfold rwP
  rw [List.length_map]
  refine Nat.le_trans (List.length_filter_le _ _) ?_
  simp; omega
theorem mem_rwP {x : System} (hv : VSys x) {cls : List Int} {i : Nat} {e : Arr2_int} : e ∈ rwP x cls i x.Edges.length ↔ ∃ l t : Nat, edgeN x i l t ∧ e = ⟨(l : Int), (cN cls t : Int)⟩ := by
  unfold rwP
  rw [List.take_length]
  simp only [List.mem_map, List.mem_filter, decide_eq_true_eq]
  constructor
  · rintro ⟨d, ⟨hd, hf⟩, rfl⟩
    obtain ⟨i', l, t, rfl, _, _, _⟩ := edge_nat hv hd
    have hii : i' = i := by simp only at hf; omega
    subst hii
    exact ⟨l, t, hd, by simp [prOf]⟩
  · rintro ⟨l, t, h, rfl⟩
    exact ⟨_, ⟨h, rfl⟩, by simp [prOf]⟩
/-- The sorted pairs of a state. -/
noncomputable def pairsN (x : System) (cls : List Int) (i : Nat) : List (Nat × Nat) := (normP (rwP x cls i x.Edges.length)).map fun p => (p.a0.toNat, p.a1.toNat)
theorem normP_nat {x : System} (hv : VSys x) {cls : List Int} {n b : Nat} (hc : ClsOf cls n b) (hn : n = x.States.toNat) {i : Nat} {e : Arr2_int} (h : e ∈ normP (rwP x cls i x.Edges.length)) : ∃ l c : Nat, e = ⟨(l : Int), (c : Int)⟩ ∧ l < x.Costs.length ∧ c < b := by
  rw [mem_normP, mem_rwP hv] at h
  obtain ⟨l, t, he, rfl⟩ := h
  obtain ⟨_, _, _, e1, _, ht, hl⟩ := edge_nat hv he
  simp only [Edge.mk.injEq] at e1
  exact ⟨l, _, rfl, by omega, (hc.get (by rw [hn]; omega)).2⟩
theorem map_inj_on {α β : Type} {f : α → β} : ∀ {l k : List α}, (∀ a ∈ l, ∀ b ∈ k, f a = f b → a = b) → l.map f = k.map f → l = k
  | [], [], _, _ => rfl
  | [], b :: k, _, h => by simp at h
  | a :: l, [], _, h => by simp at h
  | a :: l, b :: k, hi, h => by
    simp only [List.map_cons, List.cons.injEq] at h
    rw [hi a (by simp) b (by simp) h.1, map_inj_on (fun c hc d hd => hi c (by simp [hc]) d (by simp [hd])) h.2]
theorem pairsN_iff {x : System} (hv : VSys x) {cls : List Int} {b : Nat} (hc : ClsOf cls x.States.toNat b) {i j : Nat} : pairsN x cls i = pairsN x cls j ↔ ∀ e, e ∈ rwP x cls i x.Edges.length ↔ e ∈ rwP x cls j x.Edges.length := by
  rw [← normP_iff]
  constructor
  · intro h
    refine map_inj_on ?_ h
    intro a ha c hc' e
    obtain ⟨l, k, rfl, _, _⟩ := normP_nat hv hc rfl ha
    obtain ⟨l', k', rfl, _, _⟩ := normP_nat hv hc rfl hc'
    simp at e
    simp [e]
  · intro h
    unfold pairsN
    rw [h]
theorem rows_sig {x : System} (hv : VSys x) {cls : List Int} {b : Nat} (hc : ClsOf cls x.States.toNat b) {i j : Nat} : (∀ e, e ∈ rwP x cls i x.Edges.length ↔ e ∈ rwP x cls j x.Edges.length) ↔ sig (TSof x hv) (eqL cls) i j := by
  have key : ∀ i j, (∀ e, e ∈ rwP x cls i x.Edges.length → e ∈ rwP x cls j x.Edges.length) ↔ half (TSof x hv) (eqL cls) i j := by
    intro i j
    constructor
    · intro h l t he
      have h1 := h ⟨(l : Int), (cN cls t : Int)⟩ ((mem_rwP hv).2 ⟨l, t, he, rfl⟩)
      obtain ⟨l', u, he', e⟩ := (mem_rwP hv).1 h1
      simp only [Arr2_int.mk.injEq] at e
      obtain ⟨e1, e2⟩ := e
      have : l' = l := by omega
      subst this
      refine ⟨u, he', (cN_eq hc ((TSof x hv).rng _ _ _ he).2 ((TSof x hv).rng _ _ _ he').2).1 (by omega)⟩
    · intro h e he
      obtain ⟨l, t, h1, rfl⟩ := (mem_rwP hv).1 he
      obtain ⟨u, h2, h3⟩ := h l t h1
      refine (mem_rwP hv).2 ⟨l, u, h2, ?_⟩
      rw [(cN_eq hc ((TSof x hv).rng _ _ _ h1).2 ((TSof x hv).rng _ _ _ h2).2).2 h3]
  unfold sig
  rw [← key i j, ← key j i]
  exact ⟨fun h => ⟨fun e he => (h e).1 he, fun e he => (h e).2 he⟩, fun h e => ⟨h.1 e, h.2 e⟩⟩

theorem setI_len {α : Type} {xs zs : List α} {i : Int} {y : α} (h : setI xs i y = some zs) : zs.length = xs.length := by
  unfold setI at h
  split at h
  · cases h; simp
  · cases h
theorem refine_ok {x : System} (hv : VSys x) (hs : x.States ≤ 100) (hl : x.Costs.length ≤ 100) {cls : List Int} (hc : ClsOf cls x.States.toNat 100) :
    Ok (shrink_refine_o_p x cls) fun r => ClsL ((eqL cls).and (sig (TSof x hv) (eqL cls))) x.States.toNat r.1 ∧ r.2 = (rnk ((eqL cls).and (sig (TSof x hv) (eqL cls))) x.States.toNat : Int) := by
  unfold shrink_refine_o_p
  have s1 := hv.s1
  have he := hv.e
  obtain ⟨n, hn⟩ : ∃ n : Nat, x.States = (n : Int) := ⟨x.States.toNat, by omega⟩
  have hnt : x.States.toNat = n := by omega
  rw [hnt] at hc ⊢
  have hn100 : n ≤ 100 := by omega
  rw [hn]
  refine Ok.step (mk_ok (by omega) (by omega)) (Ok.bind ?_)
  refine Ok.forS (fun m (L : List (List Arr2_int)) => L.length = n ∧ ∀ i, i < n → L[i]? = some (rwP x cls i m)) ⟨by simp, fun i hi => by simp [hi, rwP]⟩ ?_ ?_
  · rintro m L hm ⟨hL, hrow⟩
    obtain ⟨d, hd⟩ := get_some hm
    obtain ⟨i, l, t, rfl, hi, ht, hlc⟩ := edge_nat hv (List.mem_of_getElem? hd)
    rw [hnt] at hi ht
    have hct := (hc.get ht).1
    simp only [idx_nat, hd, Option.bind_some, hrow i hi, hct]
    refine Ok.step (app_ok (by have := rwP_len x cls i m; simp; omega)) (Ok.step (setI_nat (by omega)) (Ok.ret ⟨by simp [hL], fun j hj => ?_⟩))
    unfold rwP
    rw [List.take_add_one, hd]
    by_cases e : j = i
    · subst e
      rw [List.getElem?_set_self (by omega)]
      simp [List.filter_append, prOf]
    · rw [List.getElem?_set_ne (Ne.symm e), hrow j hj]
      have : ¬ ((i : Int) = (j : Int)) := by omega
      simp [List.filter_append, this, rwP]
  · rintro L ⟨hL, hrow⟩
    refine Ok.step (mk_ok (by omega) (by omega)) (Ok.bind ?_)
    refine Ok.forS (fun m (t : List ByteArray × List (List Arr2_int)) => t.1.length = n ∧ t.2.length = n ∧ (∀ j, j < m → t.1[j]? = some ⟨(stateT (cN cls j) (pairsN x cls j)).toArray⟩) ∧ ∀ j, m ≤ j → j < n → t.2[j]? = some (rwP x cls j x.Edges.length)) ⟨by simp, hL, fun j h => absurd h (Nat.not_lt_zero _), fun j _ hj => hrow j hj⟩ ?_ ?_
    · rintro m ⟨T, M⟩ hm ⟨hT, hM, hdone, hleft⟩
      simp only at hT hM hdone hleft
      have hmn : m < n := by omega
      simp only [un2, idx_nat, hleft m (Nat.le_refl _) hmn, Option.bind_some]
      have hrl := rwP_len x cls m x.Edges.length
      rw [sortPairs_eq (by omega)]
      simp only [Option.bind_some]
      rw [setI_nat (by omega)]
      have hcm := (hc.get hmn).1
      have hcb := (hc.get hmn).2
      simp only [Option.bind_some, hcm, itoa_ok hcb]
      have ha0 := appS_bytes (l := []) (q := digs (cN cls m)) (by have := digs_len hcb; simp; omega)
      simp only [List.map_nil, List.nil_append] at ha0
      have e0 : itoaB (cN cls m) = ⟨(digs (cN cls m)).toArray⟩ := rfl
      rw [e0, ha0]
      simp only [Option.bind_some]
      rw [List.getElem?_set_self (by omega)]
      simp only [Option.bind_some, compactP_eq]
      refine Ok.bind ((compact_ok eqs_pair ⟨0, 0⟩ (srtP (rwP x cls m x.Edges.length)) (by rw [srtP_len]; omega)).mono ?_)
      rintro ⟨k, R⟩ ⟨hk, hR, htk⟩
      simp only at hk hR htk
      simp only [un2]
      rw [setI_nat (by simp; omega)]
      simp only [Option.bind_some]
      rw [srtP_len] at hk
      refine Ok.must (by simp; omega) ?_
      have hnorm : R.take k = normP (rwP x cls m x.Edges.length) := htk
      have hnlen : (normP (rwP x cls m x.Edges.length)).length = k := by rw [← hnorm, List.length_take]; rw [srtP_len] at hR; omega
      have hget : ∀ j, j < k → ∃ l c : Nat, R[j]? = some ⟨(l : Int), (c : Int)⟩ ∧ (pairsN x cls m)[j]? = some (l, c) ∧ l < 100 ∧ c < 100 := by
        intro j hj
        obtain ⟨y, hy⟩ := get_some (show j < (normP (rwP x cls m x.Edges.length)).length by omega)
        obtain ⟨l, c, rfl, h1, h2⟩ := normP_nat hv hc hnt.symm (List.mem_of_getElem? hy)
        refine ⟨l, c, ?_, ?_, by omega, h2⟩
        · rw [← hnorm, List.getElem?_take_of_lt hj] at hy; exact hy
        · unfold pairsN; rw [List.getElem?_map, hy]; rfl
      refine Ok.bind (Ok.forS (fun j (b : List Int) => b = (digs (cN cls m) ++ pairT ((pairsN x cls m).take j)).map fun c => (c.toNat : Int)) (by simp [pairT]) ?_ ?_)
      · rintro j b hj rfl
        have hjk : j < k := by omega
        obtain ⟨l, c, h1, h2, h3, h4⟩ := hget j hjk
        rw [List.getElem?_set_self (by simp; omega)]
        have hv2 : idxV R 0 k (j : Int) = some ⟨(l : Int), (c : Int)⟩ := by unfold idxV; rw [if_pos (by omega), show (0 : Int) + (j : Int) = (j : Int) by omega, idx_nat, h1]
        simp only [Option.bind_some, hv2, itoa_ok h3, itoa_ok h4]
        have d1 := digs_len h3
        have d2 := digs_len h4
        have d0 := digs_len hcb
        have e1 : itoaB l = ⟨(digs l).toArray⟩ := rfl
        have e2 : itoaB c = ⟨(digs c).toArray⟩ := rfl
        have c1 := cat_bytes (l := [32]) (q := digs l) (by simp; omega)
        have c2 := cat_bytes (l := [32] ++ digs l) (q := [58]) (by simp; omega)
        have c3 := cat_bytes (l := [32] ++ digs l ++ [58]) (q := digs c) (by simp; omega)
        rw [e1, e2]
        rw [show (⟨#[32]⟩ : ByteArray) = ⟨([32] : List UInt8).toArray⟩ from rfl, show (⟨#[58]⟩ : ByteArray) = ⟨([58] : List UInt8).toArray⟩ from rfl, c1]
        simp only [Option.bind_some]
        rw [c2]
        simp only [Option.bind_some]
        rw [c3]
        simp only [Option.bind_some]
        have hpl := pairT_len ((pairsN x cls m).take j) (fun p hp => by
          have hp := List.mem_of_mem_take hp
          obtain ⟨q, hq⟩ := List.mem_iff_getElem?.1 hp
          have hqk : q < k := by
            have := (List.getElem?_eq_some_iff.1 hq).1
            unfold pairsN at this
            rw [List.length_map, hnlen] at this
            exact this
          obtain ⟨l', c', _, h6, h7, h8⟩ := hget q hqk
          rw [h6] at hq; cases hq
          exact ⟨h7, h8⟩)
        rw [List.length_take] at hpl
        refine Ok.step (appS_bytes (by simp; omega)) (Ok.ret ?_)
        rw [List.take_add_one, h2]
        simp only [Option.toList_some, pairT_append, pairT, List.append_nil]
        simp
      · rintro b rfl
        have hfull : (pairsN x cls m).take ((k : Int).toNat) = pairsN x cls m := by
          refine List.take_of_length_le ?_
          unfold pairsN
          rw [List.length_map, hnlen]; omega
        rw [hfull, show digs (cN cls m) ++ pairT (pairsN x cls m) = stateT (cN cls m) (pairsN x cls m) from rfl]
        rw [strOf_bytes (l := stateT (cN cls m) (pairsN x cls m)) (fun e => digs_ne hcb (List.append_eq_nil_iff.1 e).1)]
        simp only [Option.bind_some]
        obtain ⟨y, hy⟩ := get_some (show m < T.length by omega)
        rw [hy]
        simp only [Option.bind_some]
        refine Ok.step (setI_nat (by omega)) (Ok.ret ⟨by simp [hT], by simp [hM], fun j hj => ?_, fun j h1 h2 => ?_⟩)
        · by_cases e : j = m
          · subst e; simp only; rw [List.getElem?_set_self (by omega)]
          · simp only; rw [List.getElem?_set_ne (Ne.symm e)]; exact hdone j (by omega)
        · simp only
          rw [List.getElem?_set_ne (by omega), List.getElem?_set_ne (by omega)]
          exact hleft j (by omega) h2
    · rintro ⟨T, M⟩ ⟨hT, hM, hdone, _⟩
      simp only at hT hM hdone
      rw [hL] at hdone
      simp only [un2]
      have hpb : ∀ j, j < n → ∀ p ∈ pairsN x cls j, p.1 < 100 ∧ p.2 < 100 := by
        intro j hj p hp
        unfold pairsN at hp
        obtain ⟨q, hq, rfl⟩ := List.mem_map.1 hp
        obtain ⟨l, c, rfl, h1, h2⟩ := normP_nat hv hc hnt.symm hq
        simp; omega
      have hsz : ∀ s ∈ T, s.size ≤ 100000000 := by
        intro s hs'
        obtain ⟨j, hj⟩ := List.mem_iff_getElem?.1 hs'
        have hjn : j < n := by have := (List.getElem?_eq_some_iff.1 hj).1; omega
        rw [hdone j hjn] at hj
        cases hj
        have h1 := pairT_len (pairsN x cls j) (hpb j hjn)
        have h2 : (pairsN x cls j).length ≤ 65536 := by
          unfold pairsN
          rw [List.length_map]
          have h3 := dd_len (srtP (rwP x cls j x.Edges.length)) none
          have h4 := rwP_len x cls j x.Edges.length
          rw [srtP_len] at h3
          unfold normP
          omega
        have h3 := digs_len (hc.get hjn).2
        show (stateT (cN cls j) (pairsN x cls j)).length ≤ _
        unfold stateT
        rw [List.length_append]
        omega
      refine Ok.bind ((numbered_ok T (by omega) hsz).mono ?_)
      rintro ⟨out, k⟩ ⟨h1, h2⟩
      simp only at h1 h2
      rw [hT] at h1 h2
      have hiff : ∀ i j, i < n → j < n → (eqL T i j ↔ (eqL cls).and (sig (TSof x hv) (eqL cls)) i j) := by
        intro i j hi hj
        unfold eqL
        rw [hdone i hi, hdone j hj]
        have hc' : ClsOf cls x.States.toNat 100 := by rw [hnt]; exact hc
        constructor
        · intro e
          simp only [Option.some.injEq, ByteArray.mk.injEq] at e
          have e' : stateT (cN cls i) (pairsN x cls i) = stateT (cN cls j) (pairsN x cls j) := by simpa using e
          obtain ⟨e1, e2⟩ := stateT_inj (hc.get hi).2 (hc.get hj).2 (hpb i hi) (hpb j hj) e'
          exact ⟨(cN_eq hc hi hj).1 e1, (rows_sig hv hc').1 ((pairsN_iff hv hc').1 e2)⟩
        · rintro ⟨e1, e2⟩
          rw [(cN_eq hc hi hj).2 e1, (pairsN_iff hv hc').2 ((rows_sig hv hc').2 e2)]
      refine Ok.ret ⟨h1.congr hiff, ?_⟩
      rw [h2, rnk_congr hiff (Nat.le_refl _)]
end Go.Pw
