/-
  Temporal plans: what a tick says; the value of a variable at a time.
-/
import Derived.Test.YtoofdhjblbnppaaGreatYzHAA
set_option linter.unusedVariables false
set_option linter.unusedSimpArgs false
namespace Go.Pw
theorem jH_idx {t : Temporal} {L : List Launch} (hA : Acc t L) {x : Nat × Bool} (hx : x.1 < L.length) : idx t.Jobs (hpOf L x).job = some (jH t L x) := jb_idx (hA.ok _ (lau_mem hx))
theorem jH_ok {t : Temporal} {L : List Launch} (hA : Acc t L) {x : Nat × Bool} (hx : x.1 < L.length) : JobOK t.Vars.length (jH t L x) := hA.chk.job _ (jb_mem (hA.ok _ (lau_mem hx)))
theorem wrX_ok {t : Temporal} {L : List Launch} (hA : Acc t L) {x : Nat × Bool} (hx : x.1 < L.length) : FactsOK t.Vars.length (wrX t L x) := by
  unfold wrX wrH; split
  · exact (jH_ok hA hx).atEnd
  · exact (jH_ok hA hx).atStart
theorem rdX_ok {t : Temporal} {L : List Launch} (hA : Acc t L) {x : Nat × Bool} (hx : x.1 < L.length) : FactsOK t.Vars.length (rdX t L x) := by
  unfold rdX rdH; split
  · exact (jH_ok hA hx).end_
  · exact (jH_ok hA hx).start
theorem intX_comm (t : Temporal) (L : List Launch) (x y : Nat × Bool) : intX t L x y = intX t L y x := intB_comm _ _ _ _
theorem ix_get {t : Temporal} {L : List Launch} {a : Int} {p : Nat} {x : Nat × Bool} (h : (ixA t L a)[p]? = some x) : (hapsAt t L a)[p]? = some (hpOf L x) := by
  rw [hapsAt_ix, List.getElem?_map, h]; rfl
theorem haps_get {t : Temporal} {L : List Launch} {a : Int} {p : Nat} {h : temporal_happening} (hp : (hapsAt t L a)[p]? = some h) : ∃ x, (ixA t L a)[p]? = some x ∧ h = hpOf L x ∧ x.1 < L.length ∧ tmH t L x = a := by
  rw [hapsAt_ix, List.getElem?_map, Option.map_eq_some_iff] at hp
  obtain ⟨x, h1, h2⟩ := hp
  exact ⟨x, h1, h2.symm, mem_ixA.1 (List.mem_of_getElem? h1)⟩
theorem AftOK.of {t : Temporal} {L : List Launch} {a : Int} {s s' : List Int} (h : AInv t (hapsAt t L a) s (fun _ => True) s') : AftOK t L a s s' := by
  refine ⟨h.1, fun v hv => ?_⟩
  rcases h.2 v hv with ⟨p, y, f, h1, _, h3, h4, h5⟩ | ⟨h1, h2⟩
  · obtain ⟨x, g1, rfl, g2, g3⟩ := haps_get h1
    exact .inl ⟨x, g2, g3, f, h3, h4, h5⟩
  · refine .inr ⟨fun x hx ha f hf => ?_, h2⟩
    obtain ⟨p, hp, e⟩ := List.mem_iff_getElem.1 (mem_ixA.2 ⟨hx, ha⟩)
    have hg : (ixA t L a)[p]? = some x := by rw [List.getElem?_eq_getElem hp, e]
    exact h1 p _ (ix_get hg) trivial f hf
def TickSays (t : Temporal) (L : List Launch) (a : Int) (s : List Int) (r : List Int × Option Int) : Prop :=
  (r.2 = none ∧ NoOv t L a ∧ NoInt t L a ∧ PreOK t L a s ∧ AftOK t L a s r.1 ∧ OverOK t L a r.1) ∨ (r.2 ≠ none ∧ (¬ NoOv t L a ∨ ¬ NoInt t L a ∨ ¬ PreOK t L a s ∨ ∃ s', NoInt t L a ∧ AftOK t L a s s' ∧ ¬ OverOK t L a s'))
theorem tick_ok {t : Temporal} {L : List Launch} (hA : Acc t L) {s : List Int} (hs : s.length = t.Vars.length) (a : Int) : Ok (temporal_tick_p t L a s (hapsAt t L a)) (TickSays t L a s) := by
  unfold temporal_tick_p
  have hlen : (hapsAt t L a).length ≤ 8192 := by have := hapsAt_len t a L; have := hA.len; omega
  have hil : (ixA t L a).length = (hapsAt t L a).length := by rw [hapsAt_ix, List.length_map]
  obtain ⟨b, hb, hov⟩ := overlaps_ok hA a
  refine Ok.step hb (Ok.ite (fun h => ⟨_, rfl, .inr ⟨by simp, .inl fun hn => by rw [hov.2 hn] at h; cases h⟩⟩) fun h => ?_)
  have hno := hov.1 h
  refine Ok.ctl (fun i _ => ∀ (p q : Nat) (x y : Nat × Bool), p < i → q < p → (ixA t L a)[p]? = some x → (ixA t L a)[q]? = some y → intX t L x y = false) (fun r => r.2 ≠ none ∧ ¬ NoInt t L a) (fun p q x y h => by omega) ?_ (fun r hr => ⟨r, rfl, .inr ⟨hr.1, .inr (.inl hr.2)⟩⟩) fun _ hni => ?_
  · intro i _ hi hin
    refine Ok.must (by simp; omega) ?_
    rw [Int.toNat_natCast]
    have hi' : i < (ixA t L a).length := by omega
    have gx := List.getElem?_eq_getElem hi'
    refine Ok.ctl (fun k _ => ∀ (q : Nat) (y : Nat × Bool), q < k → (ixA t L a)[q]? = some y → intX t L (ixA t L a)[i] y = false) (fun r => r.2 ≠ none ∧ ¬ NoInt t L a) (fun q y h => by omega) ?_ (fun r hr => ⟨_, rfl, hr⟩) fun _ hk => ⟨_, rfl, fun p q x y h1 h2 h3 h4 => ?_⟩
    · intro k _ hk hkn
      have hk' : k < (ixA t L a).length := by omega
      have gy := List.getElem?_eq_getElem hk'
      have mx := mem_ixA.1 (List.getElem_mem hi')
      have my := mem_ixA.1 (List.getElem_mem hk')
      refine Ok.step (by rw [idx_nat]; exact ix_get gx) (Ok.step (by rw [idx_nat]; exact ix_get gy) (Ok.step (interfere_ok (jH_idx hA mx.1) (jH_idx hA my.1)) ?_))
      refine Ok.ite (fun h => ⟨_, rfl, by simp, fun hn => ?_⟩) fun h => ⟨_, rfl, fun q y h1 h2 => ?_⟩
      · have h2 := hn _ _ mx.1 my.1 mx.2 my.2 fun e => (List.pairwise_iff_getElem.1 (ixA_nodup t L a)) k i hk' hi' hk e.symm
        have h3 : intX t L (ixA t L a)[i] (ixA t L a)[k] = true := h
        rw [h2] at h3; cases h3
      · by_cases e : q = k
        · subst e; rw [gy] at h2; cases h2; exact h
        · exact hkn q y (by omega) h2
    · by_cases e : p = i
      · subst e; rw [gx] at h3; cases h3; exact hk q y h2 h4
      · exact hin p q x y (by omega) h2 h3 h4
  have hnI : NoInt t L a := by
    intro x y hx hy tx ty hne
    obtain ⟨p, hp, ep⟩ := List.mem_iff_getElem.1 (mem_ixA.2 ⟨hx, tx⟩)
    obtain ⟨q, hq, eq⟩ := List.mem_iff_getElem.1 (mem_ixA.2 ⟨hy, ty⟩)
    have gp : (ixA t L a)[p]? = some x := by rw [List.getElem?_eq_getElem hp, ep]
    have gq : (ixA t L a)[q]? = some y := by rw [List.getElem?_eq_getElem hq, eq]
    rcases Nat.lt_trichotomy p q with h | h | h
    · rw [intX_comm]; exact hni q p y x (by omega) h gq gp
    · subst h; exact absurd (ep.symm.trans eq) hne
    · exact hni p q x y (by omega) h gp gq
  refine Ok.ctl (fun i _ => ∀ (p : Nat) (x : Nat × Bool), p < i → (ixA t L a)[p]? = some x → holdsB (rdX t L x) s = true) (fun r => r.2 ≠ none ∧ ¬ PreOK t L a s) (fun p x h => by omega) ?_ (fun r hr => ⟨r, rfl, .inr ⟨hr.1, .inr (.inr (.inl hr.2))⟩⟩) fun _ hpr => ?_
  · intro i _ hi hin
    have hi' : i < (ixA t L a).length := by omega
    have gx := List.getElem?_eq_getElem hi'
    have mx := mem_ixA.1 (List.getElem_mem hi')
    refine Ok.step (by rw [idx_nat]; exact ix_get gx) (Ok.step (reads_ok (jH_idx hA mx.1)) (Ok.step (Holds_ok _ _) ?_))
    refine Ok.ite (fun h => ⟨_, rfl, by simp, fun hn => ?_⟩) fun h => ⟨_, rfl, fun p x h1 h2 => ?_⟩
    · have h2 := hn _ mx.1 mx.2
      have h3 : holdsB (rdH (jH t L (ixA t L a)[i]) (hpOf L (ixA t L a)[i]).end_) s = true := h2
      rw [h3] at h; cases h
    · by_cases e : p = i
      · subst e; rw [gx] at h2; cases h2
        have h3 : holdsB (rdH (jH t L (ixA t L a)[p]) (hpOf L (ixA t L a)[p]).end_) s = true := by simpa using h
        exact h3
      · exact hin p x (by omega) h2
  have hpre : PreOK t L a s := by
    intro x hx tx
    obtain ⟨p, hp, ep⟩ := List.mem_iff_getElem.1 (mem_ixA.2 ⟨hx, tx⟩)
    exact hpr p x (by omega) (by rw [List.getElem?_eq_getElem hp, ep])
  refine Ok.bind ((after_ok hA.chk hs (list := hapsAt t L a) fun h hh => ?_).mono fun s' hs' => ?_)
  · obtain ⟨p, hp, e⟩ := List.mem_iff_getElem.1 hh
    obtain ⟨x, _, rfl, hx, _⟩ := haps_get (by rw [List.getElem?_eq_getElem hp, e] : (hapsAt t L a)[p]? = some h)
    have := hA.ok _ (lau_mem hx)
    exact ⟨this.j0, this.j1⟩
  have haf := AftOK.of hs'
  refine Ok.ctl (fun j _ => ∀ i, i < j → i < L.length → (lau L i).At ≤ a → a < endT t (lau L i) → holdsB (jb t (lau L i)).Over s' = true) (fun r => r.2 ≠ none ∧ ¬ OverOK t L a s') (fun i h => by omega) ?_ (fun r hr => ⟨r, rfl, .inr ⟨hr.1, .inr (.inr (.inr ⟨s', hnI, haf, hr.2⟩))⟩⟩) fun _ hov => ⟨_, rfl, .inl ⟨rfl, hno, hnI, hpre, haf, fun i hi => hov i hi hi⟩⟩
  intro j _ hj hin
  refine Ok.step (by rw [idx_nat]; exact lau_get hj) ?_
  have hok := hA.ok _ (lau_mem hj)
  have nx : ((lau L j).At ≤ a → a < endT t (lau L j) → holdsB (jb t (lau L j)).Over s' = true) → ∀ i, i < j + 1 → i < L.length → (lau L i).At ≤ a → a < endT t (lau L i) → holdsB (jb t (lau L i)).Over s' = true := fun h i h1 h2 => by
    by_cases e : i = j
    · subst e; exact h
    · exact hin i (by omega) h2
  by_cases c1 : (lau L j).At ≤ a
  · by_cases c2 : a < endT t (lau L j)
    · simp only [c1, c2, decide_true, if_true, end_ok hA.chk hok, jb_idx hok, Holds_ok, Option.bind_some]
      refine Ok.ite (fun h => ⟨_, rfl, by simp, fun hn => ?_⟩) fun h => ⟨_, rfl, nx fun _ _ => by simpa using h⟩
      rw [hn j hj c1 c2] at h; cases h
    · simp only [c1, c2, decide_true, decide_false, Bool.false_eq_true, if_true, if_false, end_ok hA.chk hok, Option.bind_some]
      exact ⟨_, rfl, nx fun _ h => absurd h c2⟩
  · simp only [c1, decide_false, Bool.false_eq_true, if_false, Option.bind_some]
    exact ⟨_, rfl, nx fun h => absurd h c1⟩
/-! ### the value of a variable behind a tick -/
def Wv (t : Temporal) (L : List Launch) (x : Nat × Bool) (v : Nat) (c : Int) : Prop := ∃ f ∈ wrX t L x, f.Var = (v : Int) ∧ f.Val = c
def IsVal (t : Temporal) (L : List Launch) (v : Nat) (τ : Int) (c : Int) : Prop :=
  (∃ x : Nat × Bool, x.1 < L.length ∧ tmH t L x ≤ τ ∧ Wv t L x v c ∧ ∀ y : Nat × Bool, y.1 < L.length → tmH t L y ≤ τ → (∃ d, Wv t L y v d) → tmH t L y ≤ tmH t L x) ∨
  ((∀ y : Nat × Bool, y.1 < L.length → (∃ d, Wv t L y v d) → τ < tmH t L y) ∧ t.Init[v]? = some c)
def SOK (t : Temporal) (L : List Launch) (τ : Int) (s : List Int) : Prop := s.length = t.Vars.length ∧ ∀ v, v < t.Vars.length → ∃ c, s[v]? = some c ∧ IsVal t L v τ c
theorem IsVal.idle {t : Temporal} {L : List Launch} {v : Nat} {τ τ' c : Int} (h : IsVal t L v τ c) (hle : τ ≤ τ') (hno : ∀ y : Nat × Bool, y.1 < L.length → (∃ d, Wv t L y v d) → tmH t L y ≤ τ' → tmH t L y ≤ τ) : IsVal t L v τ' c := by
  rcases h with ⟨x, h1, h2, h3, h4⟩ | ⟨h1, h2⟩
  · exact .inl ⟨x, h1, by omega, h3, fun y g1 g2 g3 => h4 y g1 (hno y g1 g3 g2) g3⟩
  · refine .inr ⟨fun y g1 g2 => ?_, h2⟩
    have := h1 y g1 g2
    by_cases e : tmH t L y ≤ τ'
    · have := hno y g1 g2 e; omega
    · omega
theorem SOK.step {t : Temporal} {L : List Launch} {a : Int} {s s' : List Int} (h : SOK t L (a - 1) s) (h' : AftOK t L a s s') : SOK t L a s' := by
  refine ⟨h'.1.trans h.1, fun v hv => ?_⟩
  obtain ⟨c, h1, h2⟩ := h.2 v hv
  rcases h'.2 v (by rw [h.1]; exact hv) with ⟨x, g1, g2, f, g3, g4, g5⟩ | ⟨g1, g2⟩
  · exact ⟨f.Val, g5, .inl ⟨x, g1, by omega, ⟨f, g3, g4, rfl⟩, fun y _ k _ => by omega⟩⟩
  · refine ⟨c, g2.trans h1, h2.idle (by omega) fun y k1 k2 k3 => ?_⟩
    obtain ⟨d, f, f1, f2, f3⟩ := k2
    have : tmH t L y ≠ a := fun e => g1 y k1 e f f1 f2
    omega
theorem SOK.idle {t : Temporal} {L : List Launch} {τ τ' : Int} {s : List Int} (h : SOK t L τ s) (hle : τ ≤ τ') (hno : ∀ y : Nat × Bool, y.1 < L.length → tmH t L y ≤ τ' → tmH t L y ≤ τ) : SOK t L τ' s :=
  ⟨h.1, fun v hv => let ⟨c, h1, h2⟩ := h.2 v hv; ⟨c, h1, h2.idle hle fun y g1 _ g3 => hno y g1 g3⟩⟩
theorem asc_uniq {n : Nat} {l : List Fact} (h : FactsOK n l) {f g : Fact} (hf : f ∈ l) (hg : g ∈ l) (e : f.Var = g.Var) : f = g := by
  obtain ⟨i, hi, rfl⟩ := List.mem_iff_getElem.1 hf
  obtain ⟨j, hj, rfl⟩ := List.mem_iff_getElem.1 hg
  have hp := List.pairwise_iff_getElem.1 h.asc
  rcases Nat.lt_trichotomy i j with k | k | k
  · have := hp i j hi hj k; omega
  · subst k; rfl
  · have := hp j i hj hi k; omega
theorem Wv.uniq {t : Temporal} {L : List Launch} (hA : Acc t L) {x : Nat × Bool} (hx : x.1 < L.length) {v : Nat} {c d : Int} (h : Wv t L x v c) (h' : Wv t L x v d) : c = d := by
  obtain ⟨f, f1, f2, rfl⟩ := h
  obtain ⟨g, g1, g2, rfl⟩ := h'
  rw [asc_uniq (wrX_ok hA hx) f1 g1 (f2.trans g2.symm)]
theorem ww_int {t : Temporal} {L : List Launch} {x y : Nat × Bool} {v : Nat} {c d : Int} (h : Wv t L x v c) (h' : Wv t L y v d) : intX t L x y = true := by
  obtain ⟨f, f1, f2, rfl⟩ := h
  obtain ⟨g, g1, g2, rfl⟩ := h'
  unfold intX intB
  rw [show meetB (wrH (jH t L x) x.2) (wrH (jH t L y) y.2) = true from meetB_iff.2 ⟨f, f1, g, g1, f2.trans g2.symm⟩]
  rfl
theorem wr_int {t : Temporal} {L : List Launch} {x y : Nat × Bool} {v : Nat} {c : Int} {f : Fact} (h : Wv t L x v c) (hf : f ∈ rdX t L y) (e : f.Var = (v : Int)) : intX t L x y = true := by
  obtain ⟨g, g1, g2, rfl⟩ := h
  unfold intX intB
  rw [show meetB (wrH (jH t L x) x.2) (rdH (jH t L y) y.2) = true from meetB_iff.2 ⟨g, g1, f, hf, g2.trans e.symm⟩]
  simp
theorem IsVal.uniq {t : Temporal} {L : List Launch} (hA : Acc t L) {v : Nat} {τ c d : Int} (hN : ∀ a, a ≤ τ → NoInt t L a) (h : IsVal t L v τ c) (h' : IsVal t L v τ d) : c = d := by
  rcases h with ⟨x, h1, h2, h3, h4⟩ | ⟨h1, h2⟩
  · rcases h' with ⟨y, g1, g2, g3, g4⟩ | ⟨g1, g2⟩
    · have e1 := h4 y g1 g2 ⟨_, g3⟩
      have e2 := g4 x h1 h2 ⟨_, h3⟩
      by_cases e : x = y
      · subst e; exact h3.uniq hA h1 g3
      · have := hN _ h2 x y h1 g1 rfl (by omega) e
        rw [ww_int h3 g3] at this; cases this
    · have := g1 x h1 ⟨_, h3⟩; omega
  · rcases h' with ⟨y, g1, g2, g3, g4⟩ | ⟨g1, g2⟩
    · have := h1 y g1 ⟨_, g3⟩; omega
    · rw [h2] at g2; cases g2; rfl
theorem holds_iff {t : Temporal} {L : List Launch} (hA : Acc t L) {τ : Int} {s : List Int} {l : List Fact} (hN : ∀ a, a ≤ τ → NoInt t L a) (hs : SOK t L τ s) (hl : FactsOK t.Vars.length l) : holdsB l s = true ↔ ∀ f ∈ l, IsVal t L f.Var.toNat τ f.Val := by
  unfold holdsB
  rw [List.all_eq_true]
  refine ⟨fun h f hf => ?_, fun h f hf => ?_⟩
  · obtain ⟨a, b⟩ := hl.rng f hf
    obtain ⟨c, h1, h2⟩ := hs.2 f.Var.toNat (by omega)
    have h3 := h f hf
    simp only [decide_eq_true_eq] at h3
    unfold idx at h3
    rw [if_pos a, h1] at h3
    cases h3
    exact h2
  · obtain ⟨a, b⟩ := hl.rng f hf
    obtain ⟨c, h1, h2⟩ := hs.2 f.Var.toNat (by omega)
    simp only [decide_eq_true_eq]
    unfold idx
    rw [if_pos a, h1, h2.uniq hA hN (h f hf)]
end Go.Pw
/-
  Temporal plans: Validate accepts exactly the plans that are fine.
-/
namespace Go.Pw
def mkS (t : Temporal) (L : List Launch) : Int := L.foldl (fun m l => max m (endT t l)) 0
theorem foldmax_le (t : Temporal) : ∀ (L : List Launch) (m : Int), m ≤ L.foldl (fun m l => max m (endT t l)) m ∧ ∀ l ∈ L, endT t l ≤ L.foldl (fun m l => max m (endT t l)) m
  | [], m => ⟨Int.le_refl _, by simp⟩
  | x :: L, m => by
    obtain ⟨h1, h2⟩ := foldmax_le t L (max m (endT t x))
    simp only [List.foldl_cons]
    refine ⟨by omega, fun l hl => ?_⟩
    rcases List.mem_cons.1 hl with rfl | hl
    · omega
    · exact h2 l hl
theorem foldmax_le' (t : Temporal) (b : Int) : ∀ (L : List Launch) (m : Int), m ≤ b → (∀ l ∈ L, endT t l ≤ b) → L.foldl (fun m l => max m (endT t l)) m ≤ b
  | [], m, h, _ => h
  | x :: L, m, h, h' => by
    simp only [List.foldl_cons]
    exact foldmax_le' t b L _ (by have := h' x (by simp); omega) fun l hl => h' l (List.mem_cons_of_mem _ hl)
theorem mkS_ge {t : Temporal} {L : List Launch} : 0 ≤ mkS t L ∧ ∀ l ∈ L, endT t l ≤ mkS t L := foldmax_le t L 0
theorem mkS_le {t : Temporal} {L : List Launch} {b : Int} (h0 : 0 ≤ b) (h : ∀ l ∈ L, endT t l ≤ b) : mkS t L ≤ b := foldmax_le' t b L 0 h0 h
theorem makespan_ok {t : Temporal} {L : List Launch} (hA : Acc t L) : temporal_makespan_p t L = some (mkS t L) := by
  unfold temporal_makespan_p
  have h : Ok (forS (fun i100 => fun (out100 : Int) => (idx L (i100 : Int)).bind fun x100 => (temporal_end_p t x100).bind <| fun (y100 : Int) => some (max out100 y100)) (L.length) 0 0) (fun r => r = mkS t L) := by
    refine Ok.forL (fun l m => m = l.foldl (fun m l => max m (endT t l)) 0) rfl ?_ fun s hs => hs
    rintro j l x m hx _ rfl
    refine Ok.step (by rw [idx_nat]; exact hx) (Ok.step (end_ok hA.chk (hA.ok x (List.mem_of_getElem? hx))) ⟨_, rfl, ?_⟩)
    rw [List.foldl_append]; rfl
  obtain ⟨r, h1, rfl⟩ := h
  rw [h1]; rfl
structure Fine (t : Temporal) (L : List Launch) : Prop where
  ov : ∀ a, NoOv t L a
  ni : ∀ a, NoInt t L a
  pre : ∀ x : Nat × Bool, x.1 < L.length → ∀ f ∈ rdX t L x, IsVal t L f.Var.toNat (tmH t L x - 1) f.Val
  over : ∀ i, i < L.length → ∀ τ, (lau L i).At ≤ τ → τ < endT t (lau L i) → ∀ f ∈ (jb t (lau L i)).Over, IsVal t L f.Var.toNat τ f.Val
  goal : ∀ f ∈ t.Goal, IsVal t L f.Var.toNat (mkS t L) f.Val
theorem tm_le {t : Temporal} {L : List Launch} (hA : Acc t L) {x : Nat × Bool} (hx : x.1 < L.length) : 0 ≤ tmH t L x ∧ tmH t L x ≤ mkS t L := by
  have h1 := hA.ok _ (lau_mem hx)
  have h2 := endT_gt hA.chk h1
  have h3 := (mkS_ge (t := t) (L := L)).2 _ (lau_mem hx)
  have := h1.a0
  unfold tmH
  split <;> omega
/-- The ticks. -/
structure Ticks (t : Temporal) (L : List Launch) (T : List Int) : Prop where
  asc : T.Pairwise (· < ·)
  mem : ∀ a, a ∈ T ↔ ∃ x : Nat × Bool, x.1 < L.length ∧ tmH t L x = a
theorem ticks_of {t : Temporal} {L : List Launch} {M : List (Int × List temporal_happening)} (h : HMap t L M) : Ticks t L (srtI (M.map Prod.fst)) := by
  have hp := srtI_perm (M.map Prod.fst)
  refine ⟨?_, fun a => ?_⟩
  · have h1 := srtI_le (M.map Prod.fst)
    have h2 := hp.nodup_iff.2 h.nd
    refine (h1.and h2).imp fun ⟨a, b⟩ => ?_
    omega
  · rw [hp.mem_iff, h.key]
    constructor
    · rintro ⟨l, hl, e⟩
      obtain ⟨i, hi, rfl⟩ := List.mem_iff_getElem.1 hl
      have el : lau L i = L[i] := by simp [lau, hi]
      rcases e with e | e
      · exact ⟨(i, false), hi, by simp [tmH, el, e]⟩
      · exact ⟨(i, true), hi, by simp [tmH, el, e]⟩
    · rintro ⟨⟨i, b⟩, hi, e⟩
      refine ⟨lau L i, lau_mem hi, ?_⟩
      cases b with
      | true => exact .inr e
      | false => exact .inl e
/-- What the ticks so far have shown. -/
structure Seen (t : Temporal) (L : List Launch) (a : Int) : Prop where
  ov : NoOv t L a
  ni : NoInt t L a
  pre : ∀ x : Nat × Bool, x.1 < L.length → tmH t L x = a → ∀ f ∈ rdX t L x, IsVal t L f.Var.toNat (a - 1) f.Val
  over : ∀ i, i < L.length → (lau L i).At ≤ a → a < endT t (lau L i) → ∀ f ∈ (jb t (lau L i)).Over, IsVal t L f.Var.toNat a f.Val
theorem Fine.seen {t : Temporal} {L : List Launch} (h : Fine t L) (a : Int) : Seen t L a :=
  ⟨h.ov a, h.ni a, fun x hx e f hf => by subst e; exact h.pre x hx f hf, fun i hi h1 h2 f hf => h.over i hi a h1 h2 f hf⟩
theorem Fine.of {t : Temporal} {L : List Launch} {T : List Int} (hT : Ticks t L T) (h : ∀ a ∈ T, Seen t L a) (hg : ∀ f ∈ t.Goal, IsVal t L f.Var.toNat (mkS t L) f.Val) : Fine t L := by
  refine ⟨fun a i k hi hk hne he hj => ?_, fun a x y hx hy tx ty => ?_, fun x hx f hf => ?_, fun i hi τ h1 h2 f hf => ?_, hg⟩
  · exact (h a ((hT.mem a).2 ⟨(i, false), hi, he⟩)).ov i k hi hk hne he hj
  · exact (h a ((hT.mem a).2 ⟨x, hx, tx⟩)).ni x y hx hy tx ty
  · exact (h _ ((hT.mem _).2 ⟨x, hx, rfl⟩)).pre x hx rfl f hf
  · -- the last tick at or before the time
    have hne : (lau L i).At ∈ T.filter fun a => decide (a ≤ τ) := List.mem_filter.2 ⟨(hT.mem _).2 ⟨(i, false), hi, rfl⟩, by simpa using h1⟩
    obtain ⟨a, ha, hmax⟩ : ∃ a, a ∈ T ∧ a ≤ τ ∧ ∀ b ∈ T, b ≤ τ → b ≤ a := by
      generalize hF : T.filter (fun a => decide (a ≤ τ)) = F at hne
      have hasc : F.Pairwise (· < ·) := by rw [← hF]; exact hT.asc.filter _
      have hFn : F ≠ [] := List.ne_nil_of_mem hne
      refine ⟨F.getLast hFn, ?_, ?_, fun b hb hbτ => ?_⟩
      · have : F.getLast hFn ∈ F := List.getLast_mem hFn
        have hm : F.getLast hFn ∈ T.filter fun a => decide (a ≤ τ) := by rw [hF]; exact this
        exact (List.mem_filter.1 hm).1
      · have : F.getLast hFn ∈ F := List.getLast_mem hFn
        have hm : F.getLast hFn ∈ T.filter fun a => decide (a ≤ τ) := by rw [hF]; exact this
        simpa using (List.mem_filter.1 hm).2
      · have hb' : b ∈ F := by rw [← hF]; exact List.mem_filter.2 ⟨hb, by simpa using hbτ⟩
        obtain ⟨p, hp, rfl⟩ := List.mem_iff_getElem.1 hb'
        rw [List.getLast_eq_getElem]
        by_cases e : p = F.length - 1
        · subst e; exact Int.le_refl _
        · have := List.pairwise_iff_getElem.1 hasc p (F.length - 1) hp (by omega) (by omega)
          omega
    have hge := hmax.2 _ ((hT.mem _).2 ⟨(i, false), hi, rfl⟩) h1
    refine ((h a ha).over i hi hge (by omega) f hf).idle hmax.1 fun y hy _ hyτ => ?_
    exact hmax.2 _ ((hT.mem _).2 ⟨y, hy, rfl⟩) hyτ
theorem Validate_ok {t : Temporal} (ht : Tight t) (L : List Launch) : Ok (temporal_Validate_p t L) fun r => (r.2 = none ↔ Acc t L ∧ Fine t L) ∧ (r.2 = none → r.1 = mkS t L) := by
  unfold temporal_Validate_p
  obtain ⟨e, he, hc⟩ := accept_ok ht L
  refine Ok.step he ?_
  cases e with
  | some z =>
    simp only [Option.isSome_some, if_true]
    refine ⟨_, rfl, ⟨fun h => by simp at h, fun h => ?_⟩, fun h => by simp at h⟩
    rw [accept_none h.1.check h.1.len h.1.ok] at he
    cases he
  | none =>
    have hA := hc rfl
    obtain ⟨M, hM, hm⟩ := happenings_ok hA
    simp only [Option.isSome_none, Bool.false_eq_true, if_false]
    refine Ok.step hM ?_
    have hT := ticks_of hm
    generalize srtI (M.map Prod.fst) = T at hT ⊢
    show Ok (ctl (forC _ T.length 0 _) _ _) _
    have hpw := List.pairwise_iff_getElem.1 hT.asc
    have hI : ∀ a ∈ T, 0 ≤ a ∧ a ≤ 1048638 := fun a ha => by
      obtain ⟨x, hx, rfl⟩ := (hT.mem a).1 ha
      have h1 := hA.ok _ (lau_mem hx)
      have h2 := endT_gt hA.chk h1
      have := h1.a0; have := h1.a1
      unfold tmH
      split <;> omega
    refine Ok.ctl (fun i s => (∀ τ, (∀ j (hj : j < T.length), j < i → T[j] ≤ τ) → (∀ j (hj : j < T.length), i ≤ j → τ < T[j]) → SOK t L τ s) ∧ (∀ j (hj : j < T.length), j < i → Seen t L T[j])) (fun r => r.2 ≠ none ∧ ¬ Fine t L) ⟨?_, fun j _ h => by omega⟩ ?_ (fun r hr => ⟨r, rfl, ⟨fun h => absurd h hr.1, fun h => absurd h.2 hr.2⟩, fun h => absurd h hr.1⟩) ?_
    · intro τ _ h2
      refine ⟨hA.chk.ini, fun v hv => ⟨t.Init[v]'(by rw [hA.chk.ini]; exact hv), by simp [hA.chk.ini, hv], .inr ⟨fun y hy _ => ?_, by simp [hA.chk.ini, hv]⟩⟩⟩
      obtain ⟨j, hj, e⟩ := List.mem_iff_getElem.1 ((hT.mem _).2 ⟨y, hy, rfl⟩)
      rw [← e]
      exact h2 j hj (by omega)
    · intro i s hi ⟨h1, h2⟩
      have hs : SOK t L (T[i] - 1) s := h1 _ (fun j hj hji => by have := hpw j i hj hi hji; omega) fun j hj hij => by
        by_cases e : i = j
        · subst e; omega
        · have := hpw i j hi hj (by omega); omega
      have hN : ∀ a, a ≤ T[i] - 1 → NoInt t L a := fun a ha x y hx hy tx ty => by
        obtain ⟨j, hj, e⟩ := List.mem_iff_getElem.1 ((hT.mem a).2 ⟨x, hx, tx⟩)
        have hji : j < i := by
          rcases Nat.lt_trichotomy j i with k | k | k
          · exact k
          · subst k; omega
          · have := hpw i j hi hj k; omega
        rw [← e] at tx ty
        exact (h2 j hj hji).ni x y hx hy tx ty
      have hN' : NoInt t L T[i] → ∀ a, a ≤ T[i] → NoInt t L a := fun h a ha => by
        by_cases e : a = T[i]
        · subst e; exact h
        · exact hN a (by omega)
      refine Ok.step (by rw [idx_nat]; exact List.getElem?_eq_getElem hi) (Ok.step (hm.hget ?_) (Ok.bind ((tick_ok hA hs.1 T[i]).mono ?_)))
      · have := hI _ (List.getElem_mem hi)
        constructor <;> omega
      rintro ⟨s', e'⟩ (⟨g0, g1, g2, g3, g4, g5⟩ | ⟨g0, g1⟩)
      · have g0 : e' = none := g0
        subst g0
        have hs' : SOK t L T[i] s' := hs.step g4
        refine ⟨_, rfl, fun τ k1 k2 => ?_, fun j hj hji => ?_⟩
        · refine hs'.idle (k1 i hi (by omega)) fun y hy hyτ => ?_
          obtain ⟨j, hj, e⟩ := List.mem_iff_getElem.1 ((hT.mem _).2 ⟨y, hy, rfl⟩)
          rw [← e] at hyτ ⊢
          by_cases c : j ≤ i
          · by_cases c2 : j = i
            · subst c2; exact Int.le_refl _
            · have := hpw j i hj hi (by omega); omega
          · have := k2 j hj (by omega); omega
        · by_cases c : j = i
          · subst c
            refine ⟨g1, g2, fun x hx tx f hf => ?_, fun i' hi' a1 a2 f hf => ?_⟩
            · exact (holds_iff hA hN hs (rdX_ok hA hx)).1 (g3 x hx tx) f hf
            · exact (holds_iff hA (hN' g2) hs' (hA.chk.job _ (jb_mem (hA.ok _ (lau_mem hi')))).over).1 (g5 i' hi' a1 a2) f hf
          · exact h2 j hj (by omega)
      · have g0 : e' ≠ none := g0
        obtain ⟨z, rfl⟩ := Option.ne_none_iff_exists'.1 g0
        refine ⟨_, rfl, by simp, fun hF => ?_⟩
        have hsn := hF.seen T[i]
        rcases g1 with g | g | g | ⟨s', k1, k2, k3⟩
        · exact g hsn.ov
        · exact g hsn.ni
        · exact g fun x hx tx => (holds_iff hA hN hs (rdX_ok hA hx)).2 fun f hf => hsn.pre x hx tx f hf
        · exact k3 fun i' hi' a1 a2 => (holds_iff hA (hN' k1) (hs.step k2) (hA.chk.job _ (jb_mem (hA.ok _ (lau_mem hi')))).over).2 fun f hf => hsn.over i' hi' a1 a2 f hf
    · intro s ⟨h1, h2⟩
      have hs : SOK t L (mkS t L) s := h1 _ (fun j hj _ => by
        obtain ⟨x, hx, e⟩ := (hT.mem _).1 (List.getElem_mem hj)
        rw [← e]; exact (tm_le hA hx).2) fun j hj h => by omega
      have hN : ∀ a, a ≤ mkS t L → NoInt t L a := fun a _ x y hx hy tx ty => by
        obtain ⟨j, hj, e⟩ := List.mem_iff_getElem.1 ((hT.mem a).2 ⟨x, hx, tx⟩)
        rw [← e] at tx ty
        exact (h2 j hj hj).ni x y hx hy tx ty
      have hg := holds_iff hA hN hs hA.chk.goal
      refine Ok.step (Holds_ok _ _) (Ok.ite (fun h => ⟨_, rfl, ⟨fun h => by simp at h, fun hF => ?_⟩, fun h => by simp at h⟩) fun h => Ok.step (makespan_ok hA) ⟨_, rfl, ⟨fun _ => ⟨hA, ?_⟩, fun _ => rfl⟩, fun _ => rfl⟩)
      · rw [hg.2 hF.2.goal] at h; cases h
      · refine Fine.of hT (fun a ha => ?_) (hg.1 (by simpa using h))
        obtain ⟨j, hj, rfl⟩ := List.mem_iff_getElem.1 ha
        exact h2 j hj hj
theorem Validate_none {t : Temporal} (ht : Tight t) {L : List Launch} (hA : Acc t L) (hF : Fine t L) : temporal_Validate_p t L = some (mkS t L, none) := by
  obtain ⟨⟨m, e⟩, h1, h2, h3⟩ := Validate_ok ht L
  have e1 : e = none := h2.2 ⟨hA, hF⟩
  subst e1
  have e2 : m = mkS t L := h3 rfl
  rw [h1, e2]
end Go.Pw
/-
  Plans that are moved: what keeps the order of what interferes stays fine.
-/
namespace Go.Pw
structure Resch (t : Temporal) (L L' : List Launch) : Prop where
  len : L'.length = L.length
  job : ∀ i, i < L.length → (lau L' i).Job = (lau L i).Job
  ok : ∀ l ∈ L', LOK t l
  ord : ∀ x y : Nat × Bool, x.1 < L.length → y.1 < L.length → x.1 ≠ y.1 → intX t L x y = true → tmH t L x < tmH t L y → tmH t L' x < tmH t L' y
  ov1 : ∀ i (x : Nat × Bool), i < L.length → x.1 < L.length → x.1 ≠ i → meetB (wrX t L x) (jb t (lau L i)).Over = true → tmH t L x ≤ (lau L i).At → tmH t L' x ≤ (lau L' i).At
  ov2 : ∀ i (x : Nat × Bool), i < L.length → x.1 < L.length → x.1 ≠ i → meetB (wrX t L x) (jb t (lau L i)).Over = true → endT t (lau L i) ≤ tmH t L x → endT t (lau L' i) ≤ tmH t L' x
  rep : ∀ i k, i < L.length → k < L.length → i ≠ k → (lau L i).Job = (lau L k).Job → (lau L i).At < (lau L k).At → endT t (lau L' i) < (lau L' k).At
section
variable {t : Temporal} {L L' : List Launch}
theorem Resch.acc (h : Resch t L L') (hA : Acc t L) : Acc t L' := ⟨hA.check, hA.chk, by rw [h.len]; exact hA.len, h.ok⟩
theorem Resch.jb (h : Resch t L L') {i : Nat} (hi : i < L.length) : Go.Pw.jb t (lau L' i) = Go.Pw.jb t (lau L i) := by unfold Go.Pw.jb; rw [h.job i hi]
theorem Resch.wr (h : Resch t L L') {x : Nat × Bool} (hx : x.1 < L.length) : wrX t L' x = wrX t L x := by unfold wrX jH; rw [h.jb hx]
theorem Resch.rd (h : Resch t L L') {x : Nat × Bool} (hx : x.1 < L.length) : rdX t L' x = rdX t L x := by unfold rdX jH; rw [h.jb hx]
theorem Resch.int (h : Resch t L L') {x y : Nat × Bool} (hx : x.1 < L.length) (hy : y.1 < L.length) : intX t L' x y = intX t L x y := by unfold intX jH; rw [h.jb hx, h.jb hy]
theorem Resch.wv (h : Resch t L L') {x : Nat × Bool} (hx : x.1 < L.length) {v : Nat} {c : Int} : Wv t L' x v c ↔ Wv t L x v c := by unfold Wv; rw [h.wr hx]
theorem dur_pos (hA : Acc t L) {i : Nat} (hi : i < L.length) : 1 ≤ (jb t (lau L i)).Duration := (hA.chk.job _ (jb_mem (hA.ok _ (lau_mem hi)))).dur.1
/-- The order of two that interfere is the same. -/
theorem Resch.lt (h : Resch t L L') (hA : Acc t L) {x y : Nat × Bool} (hx : x.1 < L.length) (hy : y.1 < L.length) (hi : intX t L x y = true) (hlt : tmH t L x < tmH t L y) : tmH t L' x < tmH t L' y := by
  by_cases e : x.1 = y.1
  · obtain ⟨i, b⟩ := x
    obtain ⟨k, c⟩ := y
    simp only at e
    subst e
    have h1 : 1 ≤ (Go.Pw.jb t (lau L i)).Duration := dur_pos hA hx
    have h2 : 1 ≤ (Go.Pw.jb t (lau L' i)).Duration := dur_pos (h.acc hA) (i := i) (by rw [h.len]; exact hx)
    cases b <;> cases c <;> simp only [tmH, endT, Bool.false_eq_true, if_false, if_true] at hlt ⊢ <;> omega
  · exact h.ord x y hx hy e hi hlt
theorem Resch.tri (h : Resch t L L') (hA : Acc t L) (hF : Fine t L) {x y : Nat × Bool} (hx : x.1 < L.length) (hy : y.1 < L.length) (hne : x ≠ y) (hi : intX t L x y = true) :
    (tmH t L x < tmH t L y ∧ tmH t L' x < tmH t L' y) ∨ (tmH t L y < tmH t L x ∧ tmH t L' y < tmH t L' x) := by
  have hd : tmH t L x ≠ tmH t L y := fun e => by
    have := hF.ni _ x y hx hy e rfl hne
    rw [hi] at this; cases this
  by_cases c : tmH t L x < tmH t L y
  · exact .inl ⟨c, h.lt hA hx hy hi c⟩
  · have c' : tmH t L y < tmH t L x := by omega
    exact .inr ⟨c', h.lt hA hy hx (by rw [intX_comm]; exact hi) c'⟩
theorem exists_max {α : Type} (f : α → Int) : ∀ l : List α, l ≠ [] → ∃ x ∈ l, ∀ y ∈ l, f y ≤ f x
  | [], h => absurd rfl h
  | [a], _ => ⟨a, by simp, fun y hy => by simp at hy; subst hy; exact Int.le_refl _⟩
  | a :: b :: l, _ => by
    obtain ⟨x, hx, hm⟩ := exists_max f (b :: l) (by simp)
    by_cases c : f x ≤ f a
    · refine ⟨a, by simp, fun y hy => ?_⟩
      rcases List.mem_cons.1 hy with rfl | hy
      · exact Int.le_refl _
      · exact Int.le_trans (hm y hy) c
    · refine ⟨x, List.mem_cons_of_mem _ hx, fun y hy => ?_⟩
      rcases List.mem_cons.1 hy with rfl | hy
      · omega
      · exact hm y hy
theorem own_time (hA : Acc t L) {x : Nat × Bool} (hx : x.1 < L.length) : (tmH t L x = (lau L x.1).At ∧ x.2 = false) ∨ (tmH t L x = endT t (lau L x.1) ∧ x.2 = true) := by
  obtain ⟨i, b⟩ := x
  cases b
  · exact .inl ⟨rfl, rfl⟩
  · exact .inr ⟨rfl, rfl⟩
/-- Who writes ahead of a launch's start does so then, too. -/
theorem Resch.before (h : Resch t L L') (hA : Acc t L) {i : Nat} (hi : i < L.length) {x : Nat × Bool} (hx : x.1 < L.length) (hm : meetB (wrX t L x) (Go.Pw.jb t (lau L i)).Over = true) (hle : tmH t L x ≤ (lau L i).At) : tmH t L' x ≤ (lau L' i).At := by
  by_cases e : x.1 = i
  · subst e
    have h1 := dur_pos hA hx
    rcases own_time hA hx with ⟨h2, h3⟩ | ⟨h2, h3⟩
    · unfold tmH; rw [h3]; simp
    · rw [h2] at hle; unfold endT at hle; omega
  · exact h.ov1 i x hi hx e hm hle
theorem Resch.behind (h : Resch t L L') (hA : Acc t L) {i : Nat} (hi : i < L.length) {x : Nat × Bool} (hx : x.1 < L.length) (hm : meetB (wrX t L x) (Go.Pw.jb t (lau L i)).Over = true) (hle : endT t (lau L i) ≤ tmH t L x) : endT t (lau L' i) ≤ tmH t L' x := by
  by_cases e : x.1 = i
  · subst e
    have h1 := dur_pos hA hx
    rcases own_time hA hx with ⟨h2, h3⟩ | ⟨h2, h3⟩
    · rw [h2] at hle; unfold endT at hle; omega
    · unfold tmH; rw [h3]; simp
  · exact h.ov2 i x hi hx e hm hle
theorem wv_meet {x : Nat × Bool} {v : Nat} {c : Int} {fs : List Fact} {f : Fact} (h : Wv t L x v c) (hf : f ∈ fs) (e : f.Var = (v : Int)) : meetB (wrX t L x) fs = true := by
  obtain ⟨g, g1, g2, _⟩ := h
  exact meetB_iff.2 ⟨g, g1, f, hf, g2.trans e.symm⟩
theorem Resch.last (h : Resch t L L') (hA : Acc t L) (hF : Fine t L) {v : Nat} {c : Int} (hv : IsVal t L v (mkS t L) c) : IsVal t L' v (mkS t L') c := by
  have hA' := h.acc hA
  rcases hv with ⟨w, h1, h2, h3, h4⟩ | ⟨h1, h2⟩
  · have hw' : w.1 < L'.length := by rw [h.len]; exact h1
    refine .inl ⟨w, hw', (tm_le hA' hw').2, (h.wv h1).2 h3, fun y hy _ ⟨d, hd⟩ => ?_⟩
    have hy' : y.1 < L.length := by rw [← h.len]; exact hy
    have hd' := (h.wv hy').1 hd
    by_cases e : y = w
    · subst e; exact Int.le_refl _
    · have := h4 y hy' (tm_le hA hy').2 ⟨d, hd'⟩
      rcases h.tri hA hF hy' h1 e (ww_int hd' h3) with k | k <;> omega
  · refine .inr ⟨fun y hy ⟨d, hd⟩ => ?_, h2⟩
    have hy' : y.1 < L.length := by rw [← h.len]; exact hy
    have := h1 y hy' ⟨d, (h.wv hy').1 hd⟩
    have := (tm_le hA hy').2
    omega
theorem Resch.fine (h : Resch t L L') (hA : Acc t L) (hF : Fine t L) : Fine t L' := by
  have hA' := h.acc hA
  have hl : ∀ {x : Nat × Bool}, x.1 < L'.length → x.1 < L.length := fun hx => by rw [← h.len]; exact hx
  have hr : ∀ {x : Nat × Bool}, x.1 < L.length → x.1 < L'.length := fun hx => by rw [h.len]; exact hx
  have cast : ∀ {n : List Fact} {f : Fact}, FactsOK t.Vars.length n → f ∈ n → f.Var = (f.Var.toNat : Int) := fun hn hf => by have := (hn.rng _ hf).1; omega
  refine ⟨fun a i k hi hk hne ha hj hov => ?_, fun a x y hx hy tx ty hne => ?_, fun x hx f hf => ?_, fun i hi τ h1 h2 f hf => ?_, fun f hf => h.last hA hF (hF.goal f hf)⟩
  · rw [h.len] at hi hk
    rw [h.job i hi, h.job k hk] at hj
    have e1 := endT_gt hA'.chk (hA'.ok _ (lau_mem (L := L') (by rw [h.len]; exact hi)))
    have e2 := endT_gt hA.chk (hA.ok _ (lau_mem hk))
    rcases Int.lt_trichotomy (lau L i).At (lau L k).At with c | c | c
    · have := h.rep i k hi hk hne hj c; omega
    · exact hF.ov _ i k hi hk hne rfl hj ⟨by omega, by omega⟩
    · have := h.rep k i hk hi (Ne.symm hne) hj.symm c; omega
  · rw [h.int (hl hx) (hl hy)]
    cases hc : intX t L x y with
    | false => rfl
    | true => rcases h.tri hA hF (hl hx) (hl hy) hne hc with k | k <;> omega
  · have hx' := hl hx
    rw [h.rd hx'] at hf
    have ev := cast (rdX_ok hA hx') hf
    rcases hF.pre x hx' f hf with ⟨w, h1, h2, h3, h4⟩ | ⟨h1, h2⟩
    · have hwx : w ≠ x := fun e => by subst e; omega
      have hw := wr_int h3 hf ev
      have hlt := h.lt hA h1 hx' hw (by omega)
      refine .inl ⟨w, hr h1, by omega, (h.wv h1).2 h3, fun y hy ty ⟨d, hd⟩ => ?_⟩
      have hy' := hl hy
      have hd' := (h.wv hy').1 hd
      have hyx : y ≠ x := fun e => by subst e; omega
      have : tmH t L y < tmH t L x := by rcases h.tri hA hF hy' hx' hyx (wr_int hd' hf ev) with k | k <;> omega
      have hle := h4 y hy' (by omega) ⟨d, hd'⟩
      by_cases e : y = w
      · subst e; exact Int.le_refl _
      · rcases h.tri hA hF hy' h1 e (ww_int hd' h3) with k | k <;> omega
    · refine .inr ⟨fun y hy ⟨d, hd⟩ => ?_, h2⟩
      have hy' := hl hy
      have hd' := (h.wv hy').1 hd
      have := h1 y hy' ⟨d, hd'⟩
      by_cases e : y = x
      · subst e; omega
      · rcases h.tri hA hF hy' hx' e (wr_int hd' hf ev) with k | k <;> omega
  · have hi' : i < L.length := by rw [← h.len]; exact hi
    rw [h.jb hi'] at hf
    have hok := hA.chk.job _ (jb_mem (hA.ok _ (lau_mem hi')))
    have ev := cast hok.over hf
    have hd0 := dur_pos hA hi'
    by_cases hex : ∃ y : Nat × Bool, y.1 < L.length ∧ tmH t L' y ≤ τ ∧ ∃ d, Wv t L y f.Var.toNat d
    · classical
      let F := (allH L.length).filter fun y => decide (tmH t L' y ≤ τ ∧ ∃ d, Wv t L y f.Var.toNat d)
      have memF : ∀ y, y ∈ F ↔ y.1 < L.length ∧ tmH t L' y ≤ τ ∧ ∃ d, Wv t L y f.Var.toNat d := fun y => by
        simp only [F, List.mem_filter, mem_allH, decide_eq_true_eq]
      obtain ⟨y0, hy0⟩ := hex
      obtain ⟨w, hw, hmax⟩ := exists_max (tmH t L') F (List.ne_nil_of_mem ((memF y0).2 hy0))
      obtain ⟨w1, w2, d, w3⟩ := (memF w).1 hw
      have hmw := wv_meet w3 hf ev
      have hwe : tmH t L w < endT t (lau L i) := by
        by_cases c : tmH t L w < endT t (lau L i)
        · exact c
        · have := h.behind hA hi' w1 hmw (by omega); omega
      have key : Wv t L w f.Var.toNat f.Val := by
        rcases hF.over i hi' (max (tmH t L w) (lau L i).At) (by omega) (by unfold endT at hwe ⊢; omega) f hf with ⟨x, k1, k2, k3, k4⟩ | ⟨k1, _⟩
        · have hwx := k4 w w1 (by omega) ⟨d, w3⟩
          by_cases e : w = x
          · subst e; exact k3
          · exfalso
            rcases h.tri hA hF w1 k1 e (ww_int w3 k3) with ⟨q1, q2⟩ | ⟨q1, q2⟩
            · have hxa : tmH t L x ≤ (lau L i).At := by omega
              have := h.before hA hi' k1 (wv_meet k3 hf ev) hxa
              have := hmax x ((memF x).2 ⟨k1, by omega, _, k3⟩)
              omega
            · omega
        · have := k1 w w1 ⟨d, w3⟩; omega
      exact .inl ⟨w, hr w1, w2, (h.wv w1).2 key, fun y hy ty ⟨d', hd'⟩ => hmax y ((memF y).2 ⟨hl hy, ty, d', (h.wv (hl hy)).1 hd'⟩)⟩
    · refine .inr ⟨fun y hy ⟨d, hd⟩ => ?_, ?_⟩
      · by_cases c : tmH t L' y ≤ τ
        · exact absurd ⟨y, hl hy, c, d, (h.wv (hl hy)).1 hd⟩ hex
        · omega
      · rcases hF.over i hi' (lau L i).At (Int.le_refl _) (by unfold endT; omega) f hf with ⟨x, k1, k2, k3, k4⟩ | ⟨_, k2⟩
        · have := h.before hA hi' k1 (wv_meet k3 hf ev) k2
          exact absurd ⟨x, k1, by omega, _, k3⟩ hex
        · exact k2
end
end Go.Pw
