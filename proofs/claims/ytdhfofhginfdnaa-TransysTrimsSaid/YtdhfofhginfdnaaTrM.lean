/-
  A system without its useless states, in plain Lean: it is valid, and the distances are the same.
-/
import Derived.Test.YtdhfofhginfdnaaTrK
set_option maxHeartbeats 4000000
set_option linter.unusedSimpArgs false
set_option linter.unusedVariables false
namespace Go.Pw
theorem countP_lt {α : Type} {p q : α → Bool} : ∀ {l : List α}, (∀ x, p x = true → q x = true) → (∃ x ∈ l, q x = true ∧ p x = false) → l.countP p < l.countP q
  | [], _, h => by obtain ⟨x, hx, _⟩ := h; simp at hx
  | a :: l, hpq, h => by
    obtain ⟨x, hx, h1, h2⟩ := h
    have hle : l.countP p ≤ l.countP q := List.countP_mono_left fun y _ hy => hpq y hy
    simp only [List.countP_cons]
    rcases List.mem_cons.1 hx with rfl | hx
    · simp only [h1, h2, if_true, Bool.false_eq_true, if_false]; omega
    · have := countP_lt hpq ⟨x, hx, h1, h2⟩
      cases hp : p a with
      | true => simp only [hpq a hp, if_true]; omega
      | false => cases q a <;> simp <;> omega
theorem SP.cross {A : Arcs} {src : Nat → Prop} {n : Nat} {l : List Int} (hA : AOK A src n) (h : SP A src n l) {t : Int} (ht : 0 ≤ t) {i : Nat} {c : Int} (hr : Reach A src i c) : c < Inf → ∀ x, l[i]? = some x → t < x → ∃ y ∈ l, t < y ∧ y ≤ t + 1048576 := by
  induction hr with
  | base hs =>
    intro _ x hx hlt
    rw [h.s0 _ hs] at hx
    cases hx; omega
  | @step v u c w hr ha ih =>
    intro hc x hx hlt
    obtain ⟨_, hu, hw, hw1⟩ := hA.a _ _ _ ha
    have hp := hr.pos hA
    obtain ⟨y, hy, hyc⟩ := h.le hA hr (by omega)
    by_cases hyt : t < y
    · exact ih (by omega) y hy hyt
    · have := h.cl v u w y x ha hy hx (by omega)
      exact ⟨x, List.mem_of_getElem? hx, hlt, by omega⟩
theorem SP.bound {A : Arcs} {src : Nat → Prop} {n : Nat} {l : List Int} (hA : AOK A src n) (hn : n ≤ 4096) (h : SP A src n l) {i : Nat} {x : Int} (hx : l[i]? = some x) (hlt : x < Inf) : x ≤ 4294967296 := by
  refine Classical.byContradiction fun hbig => ?_
  have hr := h.re i x hx hlt
  have key : ∀ m : Nat, m ≤ 4096 → m + 1 ≤ l.countP fun y => decide (y ≤ (m : Int) * 1048576) := by
    intro m
    induction m with
    | zero =>
      intro _
      obtain ⟨j, hj⟩ : ∃ j, src j := by
        clear hbig hx hlt
        induction hr with
        | base hs => exact ⟨_, hs⟩
        | step _ _ ih => exact ih
      have h0 := h.s0 j hj
      have : 0 < l.countP fun y => decide (y ≤ ((0 : Nat) : Int) * 1048576) := List.countP_pos_iff.2 ⟨0, List.mem_of_getElem? h0, by simp⟩
      omega
    | succ m ih =>
      intro hm
      have h1 := ih (by omega)
      obtain ⟨y, hy, hy1, hy2⟩ := h.cross hA (t := (m : Int) * 1048576) (by omega) hr hlt x hx (by omega)
      have := countP_lt (l := l) (p := fun y => decide (y ≤ (m : Int) * 1048576)) (q := fun y => decide (y ≤ ((m + 1 : Nat) : Int) * 1048576)) (by
        intro z hz
        simp only [decide_eq_true_eq] at *
        omega) ⟨y, hy, by simp only [decide_eq_true_eq]; omega, by simp only [decide_eq_false_iff_not]; omega⟩
      omega
  have h1 := key n hn
  have h2 : l.countP (fun y => decide (y ≤ (n : Int) * 1048576)) ≤ l.length := List.countP_le_length
  rw [h.len] at h2
  omega

section
variable (keep : Nat → Bool)
def kept (n : Nat) : List Nat := (List.range n).filter keep
def rank (i : Nat) : Nat := (kept keep i).length
def toF (i : Nat) : Int := if keep i then (rank keep i : Int) else -1
theorem kept_succ (i : Nat) : kept keep (i + 1) = kept keep i ++ (if keep i then [i] else []) := by
  unfold kept
  rw [List.range_succ, List.filter_append]
  congr 1
  cases h : keep i <;> simp [h]
theorem rank_succ (i : Nat) : rank keep (i + 1) = rank keep i + (if keep i then 1 else 0) := by
  unfold rank
  rw [kept_succ]
  cases h : keep i <;> simp
theorem rank_mono {i j : Nat} (h : i ≤ j) : rank keep i ≤ rank keep j := by
  induction j with
  | zero => have : i = 0 := by omega
            subst this; exact Nat.le_refl _
  | succ j ih =>
    by_cases e : i = j + 1
    · subst e; exact Nat.le_refl _
    · have := ih (by omega)
      rw [rank_succ]
      omega
theorem rank_lt {i j : Nat} (hk : keep i = true) (h : i < j) : rank keep i < rank keep j := by
  have h1 := rank_succ keep i
  have h2 := rank_mono keep (show i + 1 ≤ j by omega)
  rw [hk] at h1
  simp only [if_true] at h1
  omega
theorem rank_inj {i j : Nat} (hi : keep i = true) (hj : keep j = true) (h : rank keep i = rank keep j) : i = j := by
  rcases Nat.lt_trichotomy i j with h1 | h1 | h1
  · have := rank_lt keep hi h1; omega
  · exact h1
  · have := rank_lt keep hj h1; omega
theorem kept_get {n i : Nat} (hk : keep i = true) (hi : i < n) : (kept keep n)[rank keep i]? = some i := by
  induction n with
  | zero => omega
  | succ n ih =>
    rw [kept_succ]
    by_cases e : i = n
    · subst e
      rw [hk]
      simp only [if_true]
      show (kept keep i ++ [i])[(kept keep i).length]? = some i
      simp
    · have h1 := ih (by omega)
      have hlt : rank keep i < (kept keep n).length := (List.getElem?_eq_some_iff.1 h1).1
      rw [List.getElem?_append_left hlt]
      exact h1
theorem kept_of {n j i : Nat} (h : (kept keep n)[j]? = some i) : keep i = true ∧ i < n ∧ j = rank keep i := by
  have hm := List.mem_of_getElem? h
  have hm' : i < n ∧ keep i = true := by simpa [kept] using hm
  refine ⟨hm'.2, hm'.1, ?_⟩
  have h2 := kept_get keep hm'.2 hm'.1
  have hnd : (kept keep n).Nodup := List.nodup_range.sublist List.filter_sublist
  have hj := (List.getElem?_eq_some_iff.1 h).1
  exact (List.getElem?_inj hj hnd).1 (h.trans h2.symm)
theorem toF_nonneg {i : Nat} : 0 ≤ toF keep i ↔ keep i = true := by
  unfold toF
  cases keep i <;> simp

def edgeT (e : Edge) : List Edge := if keep e.From.toNat && keep e.To.toNat then [⟨toF keep e.From.toNat, e.Label, toF keep e.To.toNat⟩] else []
def trimS (x : System) : System := ⟨(rank keep x.States.toNat : Int), toF keep x.Init.toNat, x.Costs, x.Edges.flatMap (edgeT keep), (kept keep x.States.toNat).map fun i => x.Goals.getD i false⟩

variable {keep} {x : System}
theorem mem_edgesT {e : Edge} : e ∈ (trimS keep x).Edges ↔ ∃ d ∈ x.Edges, keep d.From.toNat = true ∧ keep d.To.toNat = true ∧ e = ⟨(rank keep d.From.toNat : Int), d.Label, (rank keep d.To.toNat : Int)⟩ := by
  simp only [trimS, List.mem_flatMap, edgeT]
  constructor
  · rintro ⟨d, hd, he⟩
    by_cases hk : keep d.From.toNat = true ∧ keep d.To.toNat = true
    · rw [if_pos (by simp [hk])] at he
      simp only [List.mem_singleton, toF, hk.1, hk.2, if_true] at he
      exact ⟨d, hd, hk.1, hk.2, he⟩
    · rw [if_neg (by simpa using hk)] at he
      simp at he
  · rintro ⟨d, hd, h1, h2, rfl⟩
    exact ⟨d, hd, by rw [if_pos (by simp [h1, h2])]; simp [toF, h1, h2]⟩
theorem edgesT_len : (trimS keep x).Edges.length ≤ x.Edges.length := by
  have := flat_le (g := edgeT keep) (M := 1) (xs := x.Edges) (by intro e _; unfold edgeT; split <;> simp)
  simpa [trimS] using this
theorem trimS_v (hv : VSys x) (hi : keep x.Init.toNat = true) : VSys (trimS keep x) := by
  have s1 := hv.s1; have s2 := hv.s2; have i0 := hv.i0; have i1 := hv.i1
  have hrI : rank keep x.Init.toNat < rank keep x.States.toNat := rank_lt keep hi (by omega)
  have hrn : rank keep x.States.toNat ≤ x.States.toNat := by
    have : (kept keep x.States.toNat).length ≤ (List.range x.States.toNat).length := List.length_filter_le _ _
    simpa [rank] using this
  have htI : (trimS keep x).Init = (rank keep x.Init.toNat : Int) := by simp [trimS, toF, hi]
  have htS : (trimS keep x).States = (rank keep x.States.toNat : Int) := rfl
  have hsrt : Srt (trimS keep x).Edges := by
    unfold Srt
    refine List.pairwise_flatMap.2 ⟨fun e _ => ?_, ?_⟩
    · unfold edgeT; split <;> simp
    · refine List.Pairwise.imp_of_mem ?_ hv.srt
      intro a b ha hb hab p hp q hq
      obtain ⟨a1, _, a3, _, _, _⟩ := hv.edge a ha
      obtain ⟨b1, _, b3, _, _, _⟩ := hv.edge b hb
      have hpa : keep a.From.toNat = true ∧ keep a.To.toNat = true ∧ p = ⟨(rank keep a.From.toNat : Int), a.Label, (rank keep a.To.toNat : Int)⟩ := by
        unfold edgeT at hp
        split at hp
        · rename_i hk
          simp only [Bool.and_eq_true] at hk
          simp only [List.mem_singleton, toF, hk.1, hk.2, if_true] at hp
          exact ⟨hk.1, hk.2, hp⟩
        · simp at hp
      have hqb : keep b.From.toNat = true ∧ keep b.To.toNat = true ∧ q = ⟨(rank keep b.From.toNat : Int), b.Label, (rank keep b.To.toNat : Int)⟩ := by
        unfold edgeT at hq
        split at hq
        · rename_i hk
          simp only [Bool.and_eq_true] at hk
          simp only [List.mem_singleton, toF, hk.1, hk.2, if_true] at hq
          exact ⟨hk.1, hk.2, hq⟩
        · simp at hq
      obtain ⟨k1, k2, rfl⟩ := hpa
      obtain ⟨k3, k4, rfl⟩ := hqb
      unfold EdLt at hab ⊢
      simp only
      rcases hab with h | ⟨h, h' | ⟨h', h''⟩⟩
      · have := rank_lt keep k1 (show a.From.toNat < b.From.toNat by omega)
        omega
      · rw [h]; omega
      · have := rank_lt keep k2 (show a.To.toNat < b.To.toNat by omega)
        rw [h]; omega
  refine ⟨by rw [htS]; omega, by rw [htS]; omega, by rw [htI]; omega, by rw [htI, htS]; omega, by simp [trimS, rank], hv.c, Nat.le_trans edgesT_len hv.e, hv.cost, ?_, ?_⟩
  · intro e he
    obtain ⟨d, hd, k1, k2, rfl⟩ := mem_edgesT.1 he
    obtain ⟨a1, a2, a3, a4, a5, a6⟩ := hv.edge d hd
    have r1 := rank_lt keep k1 (show d.From.toNat < x.States.toNat by omega)
    have r2 := rank_lt keep k2 (show d.To.toNat < x.States.toNat by omega)
    simp only [htS]
    exact ⟨by omega, by omega, by omega, by omega, a5, a6⟩
  · intro i a b ha hb
    obtain ⟨hi1, rfl⟩ := List.getElem?_eq_some_iff.1 ha
    obtain ⟨hi2, rfl⟩ := List.getElem?_eq_some_iff.1 hb
    exact List.pairwise_iff_getElem.1 hsrt i (i + 1) hi1 hi2 (by omega)

theorem arcT (hv : VSys x) {v' u' : Nat} {w : Int} : ArcOf (trimS keep x) true v' u' w ↔ ∃ v u, keep v = true ∧ keep u = true ∧ v' = rank keep v ∧ u' = rank keep u ∧ ArcOf x true v u w := by
  simp only [ArcOf, if_true]
  constructor
  · rintro ⟨e, he, l, hl, hw, h1, h2⟩
    obtain ⟨d, hd, k1, k2, rfl⟩ := mem_edgesT.1 he
    obtain ⟨a1, a2, a3, a4, a5, a6⟩ := hv.edge d hd
    simp only at hl h1 h2
    exact ⟨d.To.toNat, d.From.toNat, k2, k1, by omega, by omega, d, hd, l, hl, hw, by omega, by omega⟩
  · rintro ⟨v, u, k1, k2, rfl, rfl, d, hd, l, hl, hw, h1, h2⟩
    have e1 : d.To.toNat = v := by omega
    have e2 : d.From.toNat = u := by omega
    refine ⟨_, mem_edgesT.2 ⟨d, hd, by rw [e2]; exact k2, by rw [e1]; exact k1, rfl⟩, l, hl, hw, ?_, ?_⟩
    · simp only [e1]
    · simp only [e2]
theorem srcT {j : Nat} : gsrc (trimS keep x) j ↔ ∃ i, keep i = true ∧ i < x.States.toNat ∧ j = rank keep i ∧ x.Goals.getD i false = true := by
  unfold gsrc
  simp only [trimS, List.getElem?_map, Option.map_eq_some_iff]
  constructor
  · rintro ⟨i, hi, hg⟩
    obtain ⟨h1, h2, h3⟩ := kept_of keep hi
    exact ⟨i, h1, h2, h3, hg⟩
  · rintro ⟨i, h1, h2, rfl, hg⟩
    exact ⟨i, kept_get keep h1 h2, hg⟩

/-- The distances of the states that are kept. -/
theorem trim_sp (hv : VSys x) {d c : List Int} (hd : SP (ArcOf x true) (gsrc x) x.States.toNat d) (hc : SP (ArcOf x false) (fun i => (i : Int) = x.Init) x.States.toNat c)
    (hk : ∀ i, i < x.States.toNat → (keep i = true ↔ (i : Int) = x.Init ∨ (∃ a b, c[i]? = some a ∧ d[i]? = some b ∧ a < Inf ∧ b < Inf))) :
    SP (ArcOf (trimS keep x) true) (gsrc (trimS keep x)) (rank keep x.States.toNat) ((kept keep x.States.toNat).map fun i => d.getD i 0) := by
  have hI : (Inf : Int) = 1125899906842624 := rfl
  have hAd := aokT hv
  have hAc := aokF hv
  have hn : x.States.toNat ≤ 4096 := by have := hv.s2; omega
  have get : ∀ {j : Nat} {y : Int}, ((kept keep x.States.toNat).map fun i => d.getD i 0)[j]? = some y → ∃ i, keep i = true ∧ i < x.States.toNat ∧ j = rank keep i ∧ d[i]? = some y := by
    intro j y h
    rw [List.getElem?_map] at h
    obtain ⟨i, hi, rfl⟩ := Option.map_eq_some_iff.1 h
    obtain ⟨h1, h2, h3⟩ := kept_of keep hi
    obtain ⟨z, hz⟩ := get_len (xs := d) (i := i) (by rw [hd.len]; exact h2)
    exact ⟨i, h1, h2, h3, by simp [hz]⟩
  have put : ∀ {i : Nat} {y : Int}, keep i = true → d[i]? = some y → ((kept keep x.States.toNat).map fun i => d.getD i 0)[rank keep i]? = some y := by
    intro i y h1 h2
    have hlt : i < x.States.toNat := by have := (List.getElem?_eq_some_iff.1 h2).1; rw [hd.len] at this; exact this
    rw [List.getElem?_map, kept_get keep h1 hlt]
    simp [h2]
  have hgs : ∀ i, x.Goals.getD i false = true ↔ gsrc x i := by
    intro i
    unfold gsrc
    rw [List.getD_eq_getElem?_getD]
    cases h : x.Goals[i]? with
    | none => simp
    | some g => simp
  have walk : ∀ {i : Nat} {a : Int}, Reach (ArcOf x true) (gsrc x) i a → a < Inf → i < x.States.toNat → (∃ b, c[i]? = some b ∧ b < Inf) → Reach (ArcOf (trimS keep x) true) (gsrc (trimS keep x)) (rank keep i) a := by
    intro i a hr
    induction hr with
    | @base i hs =>
      rintro _ hi ⟨b, hb, hbl⟩
      have h0 := hd.s0 _ hs
      exact .base (srcT.2 ⟨i, (hk i hi).2 (.inr ⟨b, 0, hb, h0, hbl, by omega⟩), hi, rfl, (hgs i).2 hs⟩)
    | @step v u a w hr ha ih =>
      rintro hlt hu ⟨b, hb, hbl⟩
      obtain ⟨hv1, _, hw0, hw1⟩ := hAd.a _ _ _ ha
      have hpos := hr.pos hAd
      obtain ⟨y, hy, hyc⟩ := hd.le hAd hr (by omega)
      obtain ⟨y', hy', hyc'⟩ := hd.le hAd (Reach.step hr ha) hlt
      have hkb := hc.bound hAc hn hb hbl
      obtain ⟨b', hb'⟩ := get_len (xs := c) (i := v) (by rw [hc.len]; exact hv1)
      have harc : ArcOf x false u v w := by
        obtain ⟨e, he, l, hl, hw, h1, h2⟩ := ha
        exact ⟨e, he, l, hl, hw, h2, h1⟩
      have hcl := hc.cl u v w b b' harc hb hb' hbl
      have hb'l : b' < Inf := by omega
      have k1 : keep v = true := (hk v hv1).2 (.inr ⟨b', y, hb', hy, hb'l, by omega⟩)
      have k2 : keep u = true := (hk u hu).2 (.inr ⟨b, y', hb, hy', hbl, by omega⟩)
      exact .step (ih (by omega) hv1 ⟨b', hb', hb'l⟩) ((arcT hv).2 ⟨v, u, k1, k2, rfl, rfl, ha⟩)
  refine { len := by simp [rank], rng := fun j y hy => ?_, s0 := fun j hj => ?_, re := fun j y hy hlt => ?_, cl := fun v' u' w a b ha h1 h2 hlt => ?_ }
  · obtain ⟨i, _, _, _, hi⟩ := get hy
    exact hd.rng i y hi
  · obtain ⟨i, h1, h2, rfl, h3⟩ := srcT.1 hj
    exact put h1 (hd.s0 i ((hgs i).1 h3))
  · obtain ⟨i, h1, h2, rfl, hi⟩ := get hy
    refine walk (hd.re i y hi hlt) hlt h2 ?_
    rcases (hk i h2).1 h1 with h | ⟨a, b, ha, _, hal, _⟩
    · exact ⟨0, hc.s0 i h, by omega⟩
    · exact ⟨a, ha, hal⟩
  · obtain ⟨v, u, k1, k2, rfl, rfl, harc⟩ := (arcT hv).1 ha
    obtain ⟨v2, g1, _, g2, hv2⟩ := get h1
    obtain ⟨u2, g3, _, g4, hu2⟩ := get h2
    have e1 := rank_inj keep k1 g1 g2
    have e2 := rank_inj keep k2 g3 g4
    subst e1 e2
    exact hd.cl v u w a b harc hv2 hu2 hlt
end
end Go.Pw
