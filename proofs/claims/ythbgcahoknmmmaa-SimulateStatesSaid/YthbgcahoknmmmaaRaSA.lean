/-
  Temporal plans: what a tick says; the value of a variable at a time.
-/
import Derived.Test.YthbgcahoknmmmaaRaHH
set_option linter.unusedVariables false
set_option linter.unusedSimpArgs false
namespace Go.Pw
theorem jH_idx {t : Temporal} {L : List Launch} (hA : Acc t L) {x : Nat × Bool} (hx : x.1 < L.length) : idx t.Jobs (hpOf L x).job = some (jH t L x) := jb_idx (hA.ok _ (lau_mem hx))
theorem jH_ok {t : Temporal} {L : List Launch} (hA : Acc t L) {x : Nat × Bool} (hx : x.1 < L.length) : JobOK t.Vars.length (jH t L x) := hA.chk.job _ (jb_mem (hA.ok _ (lau_mem hx)))
theorem wrX_ok {t : Temporal} {L : List Launch} (hA : Acc t L) {x : Nat × Bool} (hx : x.1 < L.length) : FactsOK t.Vars.length (wrX t L x) := by
  unfold wrX wrH; split
  · exact (jH_ok hA hx).atEnd
  · exact (jH_ok hA hx).atStart
theorem rdX_ok {t : Temporal} {L : List Launch} (hA : Acc t L) {x : Nat × Bool} (hx : x.1 < L.length) : FactsOK t.Vars.length (rdX t L x) := by
  unfold rdX rdH; split
  · exact (jH_ok hA hx).end_
  · exact (jH_ok hA hx).start
theorem intX_comm (t : Temporal) (L : List Launch) (x y : Nat × Bool) : intX t L x y = intX t L y x := intB_comm _ _ _ _
theorem ix_get {t : Temporal} {L : List Launch} {a : Int} {p : Nat} {x : Nat × Bool} (h : (ixA t L a)[p]? = some x) : (hapsAt t L a)[p]? = some (hpOf L x) := by
  rw [hapsAt_ix, List.getElem?_map, h]; rfl
theorem haps_get {t : Temporal} {L : List Launch} {a : Int} {p : Nat} {h : temporal_happening} (hp : (hapsAt t L a)[p]? = some h) : ∃ x, (ixA t L a)[p]? = some x ∧ h = hpOf L x ∧ x.1 < L.length ∧ tmH t L x = a := by
  rw [hapsAt_ix, List.getElem?_map, Option.map_eq_some_iff] at hp
  obtain ⟨x, h1, h2⟩ := hp
  exact ⟨x, h1, h2.symm, mem_ixA.1 (List.mem_of_getElem? h1)⟩
theorem AftOK.of {t : Temporal} {L : List Launch} {a : Int} {s s' : List Int} (h : AInv t (hapsAt t L a) s (fun _ => True) s') : AftOK t L a s s' := by
  refine ⟨h.1, fun v hv => ?_⟩
  rcases h.2 v hv with ⟨p, y, f, h1, _, h3, h4, h5⟩ | ⟨h1, h2⟩
  · obtain ⟨x, g1, rfl, g2, g3⟩ := haps_get h1
    exact .inl ⟨x, g2, g3, f, h3, h4, h5⟩
  · refine .inr ⟨fun x hx ha f hf => ?_, h2⟩
    obtain ⟨p, hp, e⟩ := List.mem_iff_getElem.1 (mem_ixA.2 ⟨hx, ha⟩)
    have hg : (ixA t L a)[p]? = some x := by rw [List.getElem?_eq_getElem hp, e]
    exact h1 p _ (ix_get hg) trivial f hf
/-! ### the value of a variable behind a tick -/
def Wv (t : Temporal) (L : List Launch) (x : Nat × Bool) (v : Nat) (c : Int) : Prop := ∃ f ∈ wrX t L x, f.Var = (v : Int) ∧ f.Val = c
def IsVal (t : Temporal) (L : List Launch) (v : Nat) (τ : Int) (c : Int) : Prop :=
  (∃ x : Nat × Bool, x.1 < L.length ∧ tmH t L x ≤ τ ∧ Wv t L x v c ∧ ∀ y : Nat × Bool, y.1 < L.length → tmH t L y ≤ τ → (∃ d, Wv t L y v d) → tmH t L y ≤ tmH t L x) ∨
  ((∀ y : Nat × Bool, y.1 < L.length → (∃ d, Wv t L y v d) → τ < tmH t L y) ∧ t.Init[v]? = some c)
def SOK (t : Temporal) (L : List Launch) (τ : Int) (s : List Int) : Prop := s.length = t.Vars.length ∧ ∀ v, v < t.Vars.length → ∃ c, s[v]? = some c ∧ IsVal t L v τ c
theorem IsVal.idle {t : Temporal} {L : List Launch} {v : Nat} {τ τ' c : Int} (h : IsVal t L v τ c) (hle : τ ≤ τ') (hno : ∀ y : Nat × Bool, y.1 < L.length → (∃ d, Wv t L y v d) → tmH t L y ≤ τ' → tmH t L y ≤ τ) : IsVal t L v τ' c := by
  rcases h with ⟨x, h1, h2, h3, h4⟩ | ⟨h1, h2⟩
  · exact .inl ⟨x, h1, by omega, h3, fun y g1 g2 g3 => h4 y g1 (hno y g1 g3 g2) g3⟩
  · refine .inr ⟨fun y g1 g2 => ?_, h2⟩
    have := h1 y g1 g2
    by_cases e : tmH t L y ≤ τ'
    · have := hno y g1 g2 e; omega
    · omega
theorem SOK.step {t : Temporal} {L : List Launch} {a : Int} {s s' : List Int} (h : SOK t L (a - 1) s) (h' : AftOK t L a s s') : SOK t L a s' := by
  refine ⟨h'.1.trans h.1, fun v hv => ?_⟩
  obtain ⟨c, h1, h2⟩ := h.2 v hv
  rcases h'.2 v (by rw [h.1]; exact hv) with ⟨x, g1, g2, f, g3, g4, g5⟩ | ⟨g1, g2⟩
  · exact ⟨f.Val, g5, .inl ⟨x, g1, by omega, ⟨f, g3, g4, rfl⟩, fun y _ k _ => by omega⟩⟩
  · refine ⟨c, g2.trans h1, h2.idle (by omega) fun y k1 k2 k3 => ?_⟩
    obtain ⟨d, f, f1, f2, f3⟩ := k2
    have : tmH t L y ≠ a := fun e => g1 y k1 e f f1 f2
    omega
theorem SOK.idle {t : Temporal} {L : List Launch} {τ τ' : Int} {s : List Int} (h : SOK t L τ s) (hle : τ ≤ τ') (hno : ∀ y : Nat × Bool, y.1 < L.length → tmH t L y ≤ τ' → tmH t L y ≤ τ) : SOK t L τ' s :=
  ⟨h.1, fun v hv => let ⟨c, h1, h2⟩ := h.2 v hv; ⟨c, h1, h2.idle hle fun y g1 _ g3 => hno y g1 g3⟩⟩
theorem asc_uniq {n : Nat} {l : List Fact} (h : FactsOK n l) {f g : Fact} (hf : f ∈ l) (hg : g ∈ l) (e : f.Var = g.Var) : f = g := by
  obtain ⟨i, hi, rfl⟩ := List.mem_iff_getElem.1 hf
  obtain ⟨j, hj, rfl⟩ := List.mem_iff_getElem.1 hg
  have hp := List.pairwise_iff_getElem.1 h.asc
  rcases Nat.lt_trichotomy i j with k | k | k
  · have := hp i j hi hj k; omega
  · subst k; rfl
  · have := hp j i hj hi k; omega
theorem Wv.uniq {t : Temporal} {L : List Launch} (hA : Acc t L) {x : Nat × Bool} (hx : x.1 < L.length) {v : Nat} {c d : Int} (h : Wv t L x v c) (h' : Wv t L x v d) : c = d := by
  obtain ⟨f, f1, f2, rfl⟩ := h
  obtain ⟨g, g1, g2, rfl⟩ := h'
  rw [asc_uniq (wrX_ok hA hx) f1 g1 (f2.trans g2.symm)]
theorem ww_int {t : Temporal} {L : List Launch} {x y : Nat × Bool} {v : Nat} {c d : Int} (h : Wv t L x v c) (h' : Wv t L y v d) : intX t L x y = true := by
  obtain ⟨f, f1, f2, rfl⟩ := h
  obtain ⟨g, g1, g2, rfl⟩ := h'
  unfold intX intB
  rw [show meetB (wrH (jH t L x) x.2) (wrH (jH t L y) y.2) = true from meetB_iff.2 ⟨f, f1, g, g1, f2.trans g2.symm⟩]
  rfl
theorem IsVal.uniq {t : Temporal} {L : List Launch} (hA : Acc t L) {v : Nat} {τ c d : Int} (hN : ∀ a, a ≤ τ → NoInt t L a) (h : IsVal t L v τ c) (h' : IsVal t L v τ d) : c = d := by
  rcases h with ⟨x, h1, h2, h3, h4⟩ | ⟨h1, h2⟩
  · rcases h' with ⟨y, g1, g2, g3, g4⟩ | ⟨g1, g2⟩
    · have e1 := h4 y g1 g2 ⟨_, g3⟩
      have e2 := g4 x h1 h2 ⟨_, h3⟩
      by_cases e : x = y
      · subst e; exact h3.uniq hA h1 g3
      · have := hN _ h2 x y h1 g1 rfl (by omega) e
        rw [ww_int h3 g3] at this; cases this
    · have := g1 x h1 ⟨_, h3⟩; omega
  · rcases h' with ⟨y, g1, g2, g3, g4⟩ | ⟨g1, g2⟩
    · have := h1 y g1 ⟨_, g3⟩; omega
    · rw [h2] at g2; cases g2; rfl
end Go.Pw
/-
  Temporal plans: Validate accepts exactly the plans that are fine.
-/
namespace Go.Pw
def mkS (t : Temporal) (L : List Launch) : Int := L.foldl (fun m l => max m (endT t l)) 0
theorem foldmax_le (t : Temporal) : ∀ (L : List Launch) (m : Int), m ≤ L.foldl (fun m l => max m (endT t l)) m ∧ ∀ l ∈ L, endT t l ≤ L.foldl (fun m l => max m (endT t l)) m
  | [], m => ⟨Int.le_refl _, by simp⟩
  | x :: L, m => by
    obtain ⟨h1, h2⟩ := foldmax_le t L (max m (endT t x))
    simp only [List.foldl_cons]
    refine ⟨by omega, fun l hl => ?_⟩
    rcases List.mem_cons.1 hl with rfl | hl
    · omega
    · exact h2 l hl
theorem mkS_ge {t : Temporal} {L : List Launch} : 0 ≤ mkS t L ∧ ∀ l ∈ L, endT t l ≤ mkS t L := foldmax_le t L 0
theorem makespan_ok {t : Temporal} {L : List Launch} (hA : Acc t L) : temporal_makespan_p t L = some (mkS t L) := by
  unfold temporal_makespan_p
  have h : Ok (forS (fun i100 => fun (out100 : Int) => (idx L (i100 : Int)).bind fun x100 => (temporal_end_p t x100).bind <| fun (y100 : Int) => some (max out100 y100)) (L.length) 0 0) (fun r => r = mkS t L) := by
    refine Ok.forL (fun l m => m = l.foldl (fun m l => max m (endT t l)) 0) rfl ?_ fun s hs => hs
    rintro j l x m hx _ rfl
    refine Ok.step (by rw [idx_nat]; exact hx) (Ok.step (end_ok hA.chk (hA.ok x (List.mem_of_getElem? hx))) ⟨_, rfl, ?_⟩)
    rw [List.foldl_append]; rfl
  obtain ⟨r, h1, rfl⟩ := h
  rw [h1]; rfl
structure Fine (t : Temporal) (L : List Launch) : Prop where
  ov : ∀ a, NoOv t L a
  ni : ∀ a, NoInt t L a
  pre : ∀ x : Nat × Bool, x.1 < L.length → ∀ f ∈ rdX t L x, IsVal t L f.Var.toNat (tmH t L x - 1) f.Val
  over : ∀ i, i < L.length → ∀ τ, (lau L i).At ≤ τ → τ < endT t (lau L i) → ∀ f ∈ (jb t (lau L i)).Over, IsVal t L f.Var.toNat τ f.Val
  goal : ∀ f ∈ t.Goal, IsVal t L f.Var.toNat (mkS t L) f.Val
theorem tm_le {t : Temporal} {L : List Launch} (hA : Acc t L) {x : Nat × Bool} (hx : x.1 < L.length) : 0 ≤ tmH t L x ∧ tmH t L x ≤ mkS t L := by
  have h1 := hA.ok _ (lau_mem hx)
  have h2 := endT_gt hA.chk h1
  have h3 := (mkS_ge (t := t) (L := L)).2 _ (lau_mem hx)
  have := h1.a0
  unfold tmH
  split <;> omega
/-- The ticks. -/
structure Ticks (t : Temporal) (L : List Launch) (T : List Int) : Prop where
  asc : T.Pairwise (· < ·)
  mem : ∀ a, a ∈ T ↔ ∃ x : Nat × Bool, x.1 < L.length ∧ tmH t L x = a
theorem ticks_of {t : Temporal} {L : List Launch} {M : List (Int × List temporal_happening)} (h : HMap t L M) : Ticks t L (srtI (M.map Prod.fst)) := by
  have hp := srtI_perm (M.map Prod.fst)
  refine ⟨?_, fun a => ?_⟩
  · have h1 := srtI_le (M.map Prod.fst)
    have h2 := hp.nodup_iff.2 h.nd
    refine (h1.and h2).imp fun ⟨a, b⟩ => ?_
    omega
  · rw [hp.mem_iff, h.key]
    constructor
    · rintro ⟨l, hl, e⟩
      obtain ⟨i, hi, rfl⟩ := List.mem_iff_getElem.1 hl
      have el : lau L i = L[i] := by simp [lau, hi]
      rcases e with e | e
      · exact ⟨(i, false), hi, by simp [tmH, el, e]⟩
      · exact ⟨(i, true), hi, by simp [tmH, el, e]⟩
    · rintro ⟨⟨i, b⟩, hi, e⟩
      refine ⟨lau L i, lau_mem hi, ?_⟩
      cases b with
      | true => exact .inr e
      | false => exact .inl e
/-- What the ticks so far have shown. -/
structure Seen (t : Temporal) (L : List Launch) (a : Int) : Prop where
  ov : NoOv t L a
  ni : NoInt t L a
  pre : ∀ x : Nat × Bool, x.1 < L.length → tmH t L x = a → ∀ f ∈ rdX t L x, IsVal t L f.Var.toNat (a - 1) f.Val
  over : ∀ i, i < L.length → (lau L i).At ≤ a → a < endT t (lau L i) → ∀ f ∈ (jb t (lau L i)).Over, IsVal t L f.Var.toNat a f.Val
theorem Fine.seen {t : Temporal} {L : List Launch} (h : Fine t L) (a : Int) : Seen t L a :=
  ⟨h.ov a, h.ni a, fun x hx e f hf => by subst e; exact h.pre x hx f hf, fun i hi h1 h2 f hf => h.over i hi a h1 h2 f hf⟩
theorem Fine.of {t : Temporal} {L : List Launch} {T : List Int} (hT : Ticks t L T) (h : ∀ a ∈ T, Seen t L a) (hg : ∀ f ∈ t.Goal, IsVal t L f.Var.toNat (mkS t L) f.Val) : Fine t L := by
  refine ⟨fun a i k hi hk hne he hj => ?_, fun a x y hx hy tx ty => ?_, fun x hx f hf => ?_, fun i hi τ h1 h2 f hf => ?_, hg⟩
  · exact (h a ((hT.mem a).2 ⟨(i, false), hi, he⟩)).ov i k hi hk hne he hj
  · exact (h a ((hT.mem a).2 ⟨x, hx, tx⟩)).ni x y hx hy tx ty
  · exact (h _ ((hT.mem _).2 ⟨x, hx, rfl⟩)).pre x hx rfl f hf
  · -- the last tick at or before the time
    have hne : (lau L i).At ∈ T.filter fun a => decide (a ≤ τ) := List.mem_filter.2 ⟨(hT.mem _).2 ⟨(i, false), hi, rfl⟩, by simpa using h1⟩
    obtain ⟨a, ha, hmax⟩ : ∃ a, a ∈ T ∧ a ≤ τ ∧ ∀ b ∈ T, b ≤ τ → b ≤ a := by
      generalize hF : T.filter (fun a => decide (a ≤ τ)) = F at hne
      have hasc : F.Pairwise (· < ·) := by rw [← hF]; exact hT.asc.filter _
      have hFn : F ≠ [] := List.ne_nil_of_mem hne
      refine ⟨F.getLast hFn, ?_, ?_, fun b hb hbτ => ?_⟩
      · have : F.getLast hFn ∈ F := List.getLast_mem hFn
        have hm : F.getLast hFn ∈ T.filter fun a => decide (a ≤ τ) := by rw [hF]; exact this
        exact (List.mem_filter.1 hm).1
      · have : F.getLast hFn ∈ F := List.getLast_mem hFn
        have hm : F.getLast hFn ∈ T.filter fun a => decide (a ≤ τ) := by rw [hF]; exact this
        simpa using (List.mem_filter.1 hm).2
      · have hb' : b ∈ F := by rw [← hF]; exact List.mem_filter.2 ⟨hb, by simpa using hbτ⟩
        obtain ⟨p, hp, rfl⟩ := List.mem_iff_getElem.1 hb'
        rw [List.getLast_eq_getElem]
        by_cases e : p = F.length - 1
        · subst e; exact Int.le_refl _
        · have := List.pairwise_iff_getElem.1 hasc p (F.length - 1) hp (by omega) (by omega)
          omega
    have hge := hmax.2 _ ((hT.mem _).2 ⟨(i, false), hi, rfl⟩) h1
    refine ((h a ha).over i hi hge (by omega) f hf).idle hmax.1 fun y hy _ hyτ => ?_
    exact hmax.2 _ ((hT.mem _).2 ⟨y, hy, rfl⟩) hyτ
end Go.Pw
/-
  Simulation: the state behind a tick, exactly.
-/
namespace Go.Pw
/-! ### what is written, in order -/
def setF (fs : List Fact) (s : List Int) : List Int := fs.foldl (fun s f => s.set f.Var.toNat f.Val) s
theorem setF_len (fs : List Fact) : ∀ s : List Int, (setF fs s).length = s.length := by
  unfold setF
  induction fs with
  | nil => intro s; rfl
  | cons f fs ih => intro s; simp only [List.foldl_cons]; rw [ih]; simp
def wrAll (t : Temporal) (L : List Launch) (xs : List (Nat × Bool)) (s : List Int) : List Int := xs.foldl (fun s x => setF (wrX t L x) s) s
theorem wrAll_len (t : Temporal) (L : List Launch) (xs : List (Nat × Bool)) : ∀ s : List Int, (wrAll t L xs s).length = s.length := by
  unfold wrAll
  induction xs with
  | nil => intro s; rfl
  | cons x xs ih => intro s; simp only [List.foldl_cons]; rw [ih, setF_len]
theorem wrAll_append (t : Temporal) (L : List Launch) (xs ys : List (Nat × Bool)) (s : List Int) : wrAll t L (xs ++ ys) s = wrAll t L ys (wrAll t L xs s) := by unfold wrAll; rw [List.foldl_append]
def cnJ (t : Temporal) (L : List Launch) (a : Int) (e : Bool) (j : Nat) : List (Nat × Bool) := ((List.range L.length).filter fun i => decide ((lau L i).Job = (j : Int) ∧ tmH t L (i, e) = a)).map fun i => (i, e)
def cnE (t : Temporal) (L : List Launch) (a : Int) (e : Bool) : List (Nat × Bool) := (List.range t.Jobs.length).flatMap fun j => cnJ t L a e j
/-- The happenings of a tick: ends by job, then starts by job. -/
def cn (t : Temporal) (L : List Launch) (a : Int) : List (Nat × Bool) := cnE t L a true ++ cnE t L a false
def aftX (t : Temporal) (L : List Launch) (a : Int) (s : List Int) : List Int := wrAll t L (cn t L a) s
theorem facts_eq {s : List Int} {fs : List Fact} (hf : ∀ f ∈ fs, 0 ≤ f.Var ∧ f.Var < s.length) :
    forS (fun i103 => fun (l103 : (List Int)) => (idx fs (i103 : Int)).bind fun x102 => (idx l103 x102.Var).bind fun x103 => (setI l103 x102.Var x102.Val).bind fun l104 => some l104) (fs.length) 0 s = some (setF fs s) := by
  refine Ok.eq (Ok.forL (fun l s' => s' = setF l s) rfl ?_ fun s' h => h)
  rintro j l x s' hx hl rfl
  obtain ⟨b1, b2⟩ := hf x (List.mem_of_getElem? hx)
  obtain ⟨n, hn⟩ : ∃ n : Nat, x.Var = (n : Int) := ⟨x.Var.toNat, by omega⟩
  have hlen : n < (setF l s).length := by rw [setF_len]; omega
  refine Ok.step (by rw [idx_nat]; exact hx) (Ok.step (a := (setF l s)[n]'hlen) (by rw [hn, idx_nat, List.getElem?_eq_getElem hlen]) (Ok.step (a := (setF l s).set n x.Val) (by rw [hn]; exact setI_nat hlen) ⟨_, rfl, ?_⟩))
  unfold setF
  rw [List.foldl_append]
  simp only [List.foldl_cons, List.foldl_nil]
  rw [hn]; rfl
section
variable {t : Temporal} {L : List Launch}
theorem wrX_rng (hA : Acc t L) {x : Nat × Bool} (hx : x.1 < L.length) {s : List Int} (hs : s.length = t.Vars.length) : ∀ f ∈ wrX t L x, 0 ≤ f.Var ∧ f.Var < s.length := fun f hf => by
  rw [hs]
  have hk := hA.chk.job _ (jb_mem (hA.ok _ (lau_mem hx)))
  unfold wrX wrH at hf
  split at hf
  · exact hk.atEnd.rng f hf
  · exact hk.atStart.rng f hf
theorem ix_getA {a : Int} {p : Nat} {x : Nat × Bool} (h : (ixA t L a)[p]? = some x) : (hapsAt t L a)[p]? = some (hpOf L x) := by
  rw [hapsAt_ix, List.getElem?_map, h]; rfl
/-- What of a list is for a job and a kind. -/
theorem filt_ix (t : Temporal) (L : List Launch) (a : Int) (e : Bool) (j : Nat) : ((ixA t L a).filter fun x => decide ((lau L x.1).Job = (j : Int) ∧ x.2 = e)) = cnJ t L a e j := by
  unfold ixA cnJ
  rw [List.filter_filter]
  have h : ∀ n, ((allH n).filter fun x => (decide ((lau L x.1).Job = (j : Int) ∧ x.2 = e)) && decide (tmH t L x = a)) = ((List.range n).filter fun i => decide ((lau L i).Job = (j : Int) ∧ tmH t L (i, e) = a)).map fun i => (i, e) := by
    intro n
    induction n with
    | zero => rfl
    | succ n ih =>
      rw [allH_succ, List.filter_append, ih, List.range_succ, List.filter_append, List.map_append]
      congr 1
      cases e <;> by_cases c1 : (lau L n).Job = (j : Int) <;> by_cases c2 : tmH t L (n, true) = a <;> by_cases c3 : tmH t L (n, false) = a <;> simp [c1, c2, c3]
  exact h L.length
theorem after_eq (hA : Acc t L) {s : List Int} (hs : s.length = t.Vars.length) (a : Int) : temporal_after_p t s (hapsAt t L a) = some (aftX t L a s) := by
  unfold temporal_after_p slices_Clone_int_p
  rw [app_ok (by simp; have := hA.chk.vars; omega)]
  simp only [Option.bind_some, List.nil_append]
  refine Ok.eq (Ok.bind (Ok.forS (fun i s' => s' = wrAll t L ((([true, false] : List Bool).take i).flatMap fun e => cnE t L a e) s) rfl ?_ fun s' h => ⟨s', rfl, by rw [h]; simp [aftX, cn]⟩))
  rintro i s1 hi rfl
  have hi2 : i < 2 := hi
  rw [idx_nat, List.getElem?_eq_getElem hi, Option.bind_some]
  generalize hs1 : wrAll t L ((([true, false] : List Bool).take i).flatMap fun e => cnE t L a e) s = s1
  have hl1 : s1.length = t.Vars.length := by rw [← hs1, wrAll_len, hs]
  generalize hx : ([true, false] : List Bool)[i] = e
  refine Ok.bind (Ok.forS (fun j s' => s' = wrAll t L ((List.range j).flatMap fun j => cnJ t L a e j) s1) rfl ?_ fun s' h => ⟨s', rfl, ?_⟩)
  · rintro j s2 hj rfl
    generalize hs2 : wrAll t L ((List.range j).flatMap fun j => cnJ t L a e j) s1 = s2
    have hl2 : s2.length = t.Vars.length := by rw [← hs2, wrAll_len, hl1]
    have hlen : (hapsAt t L a).length = (ixA t L a).length := by rw [hapsAt_ix, List.length_map]
    rw [hlen]
    refine Ok.bind (Ok.forS (fun q s' => s' = wrAll t L (((ixA t L a).take q).filter fun x => decide ((lau L x.1).Job = (j : Int) ∧ x.2 = e)) s2) rfl ?_ fun s' h => ⟨s', rfl, ?_⟩)
    · rintro q s3 hq rfl
      generalize hs3 : wrAll t L (((ixA t L a).take q).filter fun x => decide ((lau L x.1).Job = (j : Int) ∧ x.2 = e)) s2 = s3
      have hl3 : s3.length = t.Vars.length := by rw [← hs3, wrAll_len, hl2]
      have hg := List.getElem?_eq_getElem hq
      have hm := mem_ixA.1 (List.getElem_mem hq)
      have h1 : idx (hapsAt t L a) (q : Int) = some (hpOf L (ixA t L a)[q]) := by rw [idx_nat]; exact ix_getA hg
      refine Ok.step h1 ?_
      rw [take_snoc hq, List.filter_append, wrAll_append, hs3]
      by_cases c : (lau L (ixA t L a)[q].1).Job = (j : Int) ∧ (ixA t L a)[q].2 = e
      · have hc1 : (hpOf L (ixA t L a)[q]).job = (j : Int) := c.1
        have hc2 : (hpOf L (ixA t L a)[q]).end_ = e := c.2
        rw [if_neg (by rw [hc1, hc2]; simp), writes_ok (j := jH t L (ixA t L a)[q]) (jb_idx (hA.ok _ (lau_mem hm.1)))]
        have he : (wrH (jH t L (ixA t L a)[q]) (hpOf L (ixA t L a)[q]).end_) = wrX t L (ixA t L a)[q] := rfl
        rw [he, Option.bind_some, facts_eq (wrX_rng hA hm.1 hl3)]
        refine ⟨_, rfl, ?_⟩
        rw [List.filter_cons_of_pos (by simpa using c)]
        rfl
      · rw [if_pos (by
          have hh : ¬ ((hpOf L (ixA t L a)[q]).job = (j : Int) ∧ (hpOf L (ixA t L a)[q]).end_ = e) := c
          by_cases k1 : (hpOf L (ixA t L a)[q]).job = (j : Int)
          · by_cases k2 : (hpOf L (ixA t L a)[q]).end_ = e
            · exact absurd ⟨k1, k2⟩ hh
            · simp [k1, k2]
          · simp [k1])]
        refine ⟨_, rfl, ?_⟩
        rw [List.filter_cons_of_neg (by simpa using c)]
        rfl
    · rw [h, List.take_length, filt_ix, List.range_succ, List.flatMap_append, wrAll_append, hs2]
      simp
  · rw [h, take_snoc hi, List.flatMap_append, wrAll_append, hs1, hx]
    simp [cnE]
end
end Go.Pw
