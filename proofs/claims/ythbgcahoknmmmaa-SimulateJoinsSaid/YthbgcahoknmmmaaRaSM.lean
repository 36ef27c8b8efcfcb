/-
  P58.1: what Conflicts returns (plain).
-/
import Derived.Test.YthbgcahoknmmmaaRaSG
set_option linter.unusedVariables false
set_option linter.unusedSimpArgs false
namespace Go.Pw
def confB (a b : Job) : Bool := ([false, true].any fun ea => [false, true].any fun eb => intB a b ea eb) || [false, true].any fun e => meetB (wrH a e) b.Over || meetB (wrH b e) a.Over
theorem confB_comm (a b : Job) : confB a b = confB b a := by
  unfold confB
  simp only [List.any_cons, List.any_nil, Bool.or_false]
  rw [intB_comm a b false false, intB_comm a b false true, intB_comm a b true false, intB_comm a b true true]
  cases intB b a false false <;> cases intB b a true false <;> cases intB b a false true <;> cases intB b a true true <;> cases meetB (wrH a false) b.Over <;> cases meetB (wrH b false) a.Over <;> cases meetB (wrH a true) b.Over <;> cases meetB (wrH b true) a.Over <;> rfl
theorem sharedB {a b : List Fact} (ha : ∀ f ∈ a, 0 ≤ f.Var) : Ok (simulate_shared_p a b) fun y => decide (0 ≤ y) = meetB a b := by
  refine (shared_ok ha).mono fun y hy => ?_
  rw [Bool.eq_iff_iff, decide_eq_true_eq, meetB_iff]
  rcases hy with ⟨h1, h2⟩ | ⟨h1, ⟨⟨x, hx, e⟩, y, hy, e'⟩, _⟩
  · exact ⟨fun h => by omega, fun ⟨x, hx, y, hy, e⟩ => absurd ⟨⟨x, hx, rfl⟩, y, hy, e.symm⟩ (h2 x.Var (ha x hx))⟩
  · exact ⟨fun _ => ⟨x, hx, y, hy, e.trans e'.symm⟩, fun _ => h1⟩
theorem conflict_ok {n : Nat} {a b : Job} (ha : JobOK n a) (hb : JobOK n b) : simulate_conflict_p a b = some (confB a b) := by
  unfold simulate_conflict_p
  rw [ctl_list (p := fun ea => !([false, true].any fun eb => intB a b ea eb)) (r := true)]
  · rw [ctl_list (p := fun e => !(meetB (wrH a e) b.Over || meetB (wrH b e) a.Over)) (r := true)]
    · unfold confB
      simp only [List.all_cons, List.all_nil, List.any_cons, List.any_nil, Bool.or_false, Bool.and_true]
      cases intB a b false false <;> cases intB a b false true <;> cases intB a b true false <;> cases intB a b true true <;> cases meetB (wrH a false) b.Over <;> cases meetB (wrH b false) a.Over <;> cases meetB (wrH a true) b.Over <;> cases meetB (wrH b true) a.Over <;> rfl
    · intro j e he
      rw [idx_nat, he, Option.bind_some]
      obtain ⟨y, h1, h2⟩ := sharedB (b := b.Over) (ha.wr0 e)
      obtain ⟨z, h3, h4⟩ := sharedB (b := a.Over) (hb.wr0 e)
      simp only [hap_eq]
      rw [h1, Option.bind_some, h2, h3]
      cases meetB (wrH a e) b.Over
      · simp only [Bool.false_eq_true, if_false, Option.bind_some, h4, Bool.false_or]
        cases meetB (wrH b e) a.Over <;> rfl
      · rfl
  · intro j ea hea
    rw [idx_nat, hea, Option.bind_some]
    rw [ctl_list (p := fun eb => !(intB a b ea eb)) (r := true)]
    · simp only [List.all_cons, List.all_nil, List.any_cons, List.any_nil, Bool.or_false, Bool.and_true]
      cases intB a b ea false <;> cases intB a b ea true <;> rfl
    · intro k eb heb
      rw [idx_nat, heb, Option.bind_some, (meeting_ok ha hb ea eb).1, Option.bind_some]
      have := meetV_int ha hb ea eb
      by_cases c : 0 ≤ meetV a b ea eb
      · rw [if_pos (by simpa using c), this.1 c]; rfl
      · have e : intB a b ea eb = false := by
          cases h : intB a b ea eb
          · rfl
          · exact absurd (this.2 h) c
        rw [if_neg (by simpa using c), e]; rfl
def jn (t : Temporal) (k : Nat) : Job := t.Jobs[k]!
theorem jn_idx {t : Temporal} {k : Nat} (h : k < t.Jobs.length) : idx t.Jobs (k : Int) = some (jn t k) := by rw [idx_nat]; simp [jn, h]
theorem jn_mem {t : Temporal} {k : Nat} (h : k < t.Jobs.length) : jn t k ∈ t.Jobs := by
  have : t.Jobs[k]? = some (jn t k) := by simp [jn, h]
  exact List.mem_of_getElem? this
def cfI (t : Temporal) (i b : Nat) : List Arr2_int := ((List.range b).filter fun k => decide (i < k) && confB (jn t i) (jn t k)).map fun (k : Nat) => ⟨(i : Int), (k : Int)⟩
def cfL (t : Temporal) : List Arr2_int := (List.range t.Jobs.length).flatMap fun i => cfI t i t.Jobs.length
theorem cfI_len (t : Temporal) (i b : Nat) : (cfI t i b).length ≤ b := by
  unfold cfI
  rw [List.length_map]
  have := List.length_filter_le (fun k => decide (i < k) && confB (jn t i) (jn t k)) (List.range b)
  simpa using this
theorem cfI_nil (t : Temporal) (i : Nat) : cfI t i (i + 1) = [] := by
  unfold cfI
  rw [List.map_eq_nil_iff, List.filter_eq_nil_iff]
  intro k hk
  have : k < i + 1 := by simpa using hk
  have : ¬ i < k := by omega
  simp [this]
theorem cfI_succ (t : Temporal) {i b : Nat} (h : i < b) : cfI t i (b + 1) = cfI t i b ++ if confB (jn t i) (jn t b) then [⟨(i : Int), (b : Int)⟩] else [] := by
  unfold cfI
  rw [List.range_succ, List.filter_append, List.map_append]
  congr 1
  cases c : confB (jn t i) (jn t b) <;> simp [h, c]
theorem mem_cfL {t : Temporal} {i k : Nat} (hik : i < k) (hk : k < t.Jobs.length) (h : confB (jn t i) (jn t k) = true) : (⟨(i : Int), (k : Int)⟩ : Arr2_int) ∈ cfL t := by
  unfold cfL cfI
  refine List.mem_flatMap.2 ⟨i, by simp; omega, List.mem_map.2 ⟨k, ?_, rfl⟩⟩
  simp [hik, h, hk]
theorem Conflicts_ok {t : Temporal} (hc : temporal_Check_p t = some none) (hk : Chk t) : simulate_Conflicts_p t = some (cfL t, none) := by
  unfold simulate_Conflicts_p
  rw [hc, Option.bind_some]
  simp only [Option.isSome_none, Bool.false_eq_true, if_false]
  have hj := hk.jobs
  rw [forAppN (n := t.Jobs.length) (base := []) (g := fun i => cfI t i t.Jobs.length) 24 (fun i _ => by have := cfI_len t i t.Jobs.length; omega)]
  · rw [List.nil_append]; rfl
  · intro i out hi ho
    simp only [List.length_nil] at ho
    have ho2 : t.Jobs.length * 24 ≤ 24 * 24 := Nat.mul_le_mul_right _ hj
    refine Ok.eq ?_
    rw [wrap_id (by omega) (by omega)]
    refine Ok.whl (fun q => ∃ b : Nat, q.1 = (b : Int) ∧ i < b ∧ b ≤ t.Jobs.length ∧ q.2 = out ++ cfI t i b) (fun q => q.2 = out ++ cfI t i t.Jobs.length) (fun _ => False) (fun q => (1000 - q.1).toNat) ⟨i + 1, by simp, by omega, by omega, by rw [cfI_nil, List.append_nil]⟩ ?_ (fun r hr => hr.elim) fun q hq => ⟨_, rfl, hq⟩
    rintro ⟨b', l⟩ ⟨b, rfl, hib, hbn, rfl⟩
    simp only [un2]
    refine Ok.ite (fun h => ?_) fun h => ⟨_, rfl, ?_⟩
    · have h := dec_t h
      have hb : b < t.Jobs.length := by omega
      have hl := cfI_len t i b
      rw [jn_idx hi, Option.bind_some, jn_idx hb, Option.bind_some, conflict_ok (hk.job _ (jn_mem hi)) (hk.job _ (jn_mem hb)), Option.bind_some, wrap_id (by omega) (by omega)]
      cases c : confB (jn t i) (jn t b)
      · refine ⟨_, rfl, ⟨b + 1, by simp, by omega, by omega, ?_⟩, by simp only; omega⟩
        rw [cfI_succ t hib, c]; simp
      · rw [if_pos rfl, app_ok (by simp; omega)]
        refine ⟨_, rfl, ⟨b + 1, by simp, by omega, by omega, ?_⟩, by simp only; omega⟩
        rw [cfI_succ t hib, c]; simp
    · have h := dec_f h
      have : b = t.Jobs.length := by omega
      subst this; rfl
end Go.Pw
/-
  P58.4: plans without problems, together (plain).
-/
namespace Go.Pw
section
variable {t : Temporal} {L A B : List Launch} {T : List Int}
theorem Steps.inv {T' : List Int} {a : Int} {S' : List (List Int)} {s' : List Int} {P' : List simulate_Problem} (h : Steps t L (T' ++ [a]) S' s' P') : ∃ S s P, Steps t L T' S s P ∧ AftOK t L a s s' ∧ P' = P ++ probs t L a s s' := by
  generalize hT : T' ++ [a] = X at h
  cases h with
  | nil => simp at hT
  | snoc h h1 h2 =>
    obtain ⟨e1, e2⟩ := List.append_inj' hT rfl
    cases e2
    subst e1
    exact ⟨_, _, _, h, h1, rfl⟩
theorem Steps.init {S : List (List Int)} {s : List Int} {P : List simulate_Problem} (h : Steps t L [] S s P) : s = t.Init ∧ P = [] := by
  generalize hT : ([] : List Int) = X at h
  cases h with
  | nil => exact ⟨rfl, rfl⟩
  | snoc h h1 h2 => simp at hT
/-- Tick by tick: no problem so far exactly if all was seen right. -/
theorem steps_seen (hA : Acc t L) (hn : L.length ≤ 40) (hT : Ticks t L T) : ∀ (k : Nat) (S : List (List Int)) (s : List Int) (P : List simulate_Problem), k ≤ T.length → Steps t L (T.take k) S s P → (P = [] ∨ ∀ j (hj : j < T.length), j < k → Seen t L T[j]) →
    P = [] ∧ (∀ j (hj : j < T.length), j < k → Seen t L T[j]) ∧ ∀ τ, (∀ j (hj : j < T.length), j < k → T[j] ≤ τ) → (∀ j (hj : j < T.length), k ≤ j → τ < T[j]) → SOK t L τ s
  | 0, S, s, P, _, hs, _ => by
    obtain ⟨rfl, rfl⟩ := hs.init
    refine ⟨rfl, fun j _ h => by omega, fun τ _ h2 => ⟨hA.chk.ini, fun v hv => ⟨t.Init[v]'(by rw [hA.chk.ini]; exact hv), by simp [hA.chk.ini, hv], .inr ⟨fun y hy _ => ?_, by simp [hA.chk.ini, hv]⟩⟩⟩⟩
    obtain ⟨j, hj, e⟩ := List.mem_iff_getElem.1 ((hT.mem _).2 ⟨y, hy, rfl⟩)
    rw [← e]
    exact h2 j hj (by omega)
  | k + 1, S', s', P', hk, hs, hor => by
    have hkT : k < T.length := by omega
    rw [take_snoc hkT] at hs
    obtain ⟨S, s, P, h1, haf, rfl⟩ := hs.inv
    have hor' : P = [] ∨ ∀ j (hj : j < T.length), j < k → Seen t L T[j] := by
      rcases hor with h | h
      · exact .inl (List.append_eq_nil_iff.1 h).1
      · exact .inr fun j hj hjk => h j hj (by omega)
    obtain ⟨i1, i2, i3⟩ := steps_seen hA hn hT k S s P (by omega) h1 hor'
    subst i1
    have hpw := List.pairwise_iff_getElem.1 hT.asc
    have hS : SOK t L (T[k] - 1) s := i3 _ (fun j hj hji => by have := hpw j k hj hkT hji; omega) fun j hj hij => by
      by_cases e : k = j
      · subst e; omega
      · have := hpw k j hkT hj (by omega); omega
    have hN : ∀ a, a ≤ T[k] - 1 → NoInt t L a := fun a ha x y hx hy tx ty => by
      obtain ⟨j, hj, e⟩ := List.mem_iff_getElem.1 ((hT.mem a).2 ⟨x, hx, tx⟩)
      have hji : j < k := by
        rcases Nat.lt_trichotomy j k with h | h | h
        · exact h
        · subst h; omega
        · have := hpw k j hkT hj h; omega
      rw [← e] at tx ty
      exact (i2 j hj hji).ni x y hx hy tx ty
    have hN' : NoInt t L T[k] → ∀ a, a ≤ T[k] → NoInt t L a := fun h a ha => by
      by_cases e : a = T[k]
      · subst e; exact h
      · exact hN a (by omega)
    have hS' : SOK t L T[k] s' := hS.step haf
    have key : probs t L T[k] s s' = [] ↔ Seen t L T[k] := by
      rw [probs_nil hA]
      constructor
      · rintro ⟨g1, g2, g3, g4⟩
        refine ⟨g1, g2, fun x hx tx f hf => ?_, fun i' hi' a1 a2 f hf => ?_⟩
        · exact (holds_iff hA hN hS (rdX_ok hA hx)).1 (g3 x hx tx) f hf
        · exact (holds_iff hA (hN' g2) hS' (hA.chk.job _ (jb_mem (hA.ok _ (lau_mem hi')))).over).1 (g4 i' hi' a1 a2) f hf
      · intro g
        refine ⟨g.ov, g.ni, fun x hx tx => ?_, fun i' hi' a1 a2 => ?_⟩
        · exact (holds_iff hA hN hS (rdX_ok hA hx)).2 fun f hf => g.pre x hx tx f hf
        · exact (holds_iff hA (hN' g.ni) hS' (hA.chk.job _ (jb_mem (hA.ok _ (lau_mem hi')))).over).2 fun f hf => g.over i' hi' a1 a2 f hf
    have hk' : probs t L T[k] s s' = [] := by
      rcases hor with h | h
      · exact (List.append_eq_nil_iff.1 h).2
      · exact key.2 (h k hkT (by omega))
    refine ⟨by rw [hk']; rfl, fun j hj hjk => ?_, fun τ k1 k2 => ?_⟩
    · by_cases e : j = k
      · subst e; exact key.1 hk'
      · exact i2 j hj (by omega)
    · refine hS'.idle (k1 k hkT (by omega)) fun y hy hyτ => ?_
      obtain ⟨j, hj, e⟩ := List.mem_iff_getElem.1 ((hT.mem _).2 ⟨y, hy, rfl⟩)
      rw [← e] at hyτ ⊢
      by_cases c : j ≤ k
      · by_cases c2 : j = k
        · subst c2; exact Int.le_refl _
        · have := hpw j k hj hkT (by omega); omega
      · have := k2 j hj (by omega); omega
theorem Steps.kinds {S : List (List Int)} {s : List Int} {P : List simulate_Problem} (h : Steps t L T S s P) : ∀ p ∈ P, p.Kind ≠ 13 := by
  induction h with
  | nil => intro p hp; simp at hp
  | snoc h h1 h2 ih =>
    intro p hp
    rcases List.mem_append.1 hp with hp | hp
    · exact ih p hp
    · unfold probs at hp
      rcases List.mem_append.1 hp with hp | hp
      · rcases List.mem_append.1 hp with hp | hp
        · rcases List.mem_append.1 hp with hp | hp
          · rw [(ovL_kind p hp).1]; decide
          · rw [(inL_kind p hp).1]; decide
        · rw [(preL_kind p hp).1]; decide
      · rw [(ovrL_kind p hp).1]; decide
theorem harmless_ok {fu : Nat} (hfu : 1000 ≤ fu) (ht : Tight t) (hn : L.length ≤ 40) : Ok (law58_harmless_p fu t L) fun r => (r = true → Acc t L ∧ ∃ T, Ticks t L T ∧ ∀ a ∈ T, Seen t L a) ∧ (∀ T, Acc t L → Ticks t L T → (∀ a ∈ T, Seen t L a) → r = true) := by
  unfold law58_harmless_p
  obtain ⟨r, h1, h2⟩ := Run_ok hfu ht (L := L) hn
  rw [h1, Option.bind_some]
  rcases h2 with ⟨hnA, z, _, _, _, rfl⟩ | ⟨hA, T, S, s, P, hT, hs, rfl⟩
  · exact ⟨false, rfl, (fun h => by cases h), fun T hA => absurd hA hnA⟩
  simp only [un2, Option.isSome_none, Bool.false_eq_true, if_false]
  rw [ctl_list (p := fun p : simulate_Problem => decide (p.Kind = 13)) (r := false)]
  · refine Ok.ite (fun h => ⟨_, rfl, fun _ => ?_, fun _ _ _ _ => rfl⟩) fun h => ⟨_, rfl, (fun h => by cases h), fun T' _ hT' hseen => ?_⟩
    · rw [List.all_eq_true] at h
      have hP : P = [] := by
        refine List.eq_nil_iff_forall_not_mem.2 fun p hp => hs.kinds p hp ?_
        have := h p (List.mem_append_left _ hp)
        simpa using this
      have hs' : Steps t L (T.take T.length) S s P := by rwa [List.take_length]
      obtain ⟨_, g2, _⟩ := steps_seen hA hn hT T.length S s P (Nat.le_refl _) hs' (.inl hP)
      refine ⟨hA, T, hT, fun a ha => ?_⟩
      obtain ⟨j, hj, rfl⟩ := List.mem_iff_getElem.1 ha
      exact g2 j hj hj
    · have := hT.uniq hT'
      subst this
      have hs' : Steps t L (T.take T.length) S s P := by rwa [List.take_length]
      obtain ⟨rfl, _, _⟩ := steps_seen hA hn hT T.length S s P (Nat.le_refl _) hs' (.inr fun j hj _ => hseen _ (List.getElem_mem hj))
      exfalso
      rw [← Bool.not_eq_true] at h
      refine h ?_
      rw [List.all_eq_true]
      intro p hp
      rw [List.nil_append] at hp
      simpa using (goalL_kind p hp).1
  · intro j p hp
    rw [idx_nat, hp, Option.bind_some]
    by_cases c : p.Kind = 13
    · rw [if_neg (by simpa using c), if_pos (by simpa using c)]
    · rw [if_pos (by simpa using c), if_neg (by simpa using c)]
/-- All is right but for the goal. -/
def t0 (t : Temporal) : Temporal := { t with Goal := [] }
structure Safe (t : Temporal) (L : List Launch) : Prop where
  ov : ∀ a, NoOv t L a
  ni : ∀ a, NoInt t L a
  pre : ∀ x : Nat × Bool, x.1 < L.length → ∀ f ∈ rdX t L x, IsVal t L f.Var.toNat (tmH t L x - 1) f.Val
  over : ∀ i, i < L.length → ∀ τ, (lau L i).At ≤ τ → τ < endT t (lau L i) → ∀ f ∈ (jb t (lau L i)).Over, IsVal t L f.Var.toNat τ f.Val
theorem Safe.of (hT : Ticks t L T) (h : ∀ a ∈ T, Seen t L a) : Safe t L := by
  have hF : Fine (t0 t) L := Fine.of (t := t0 t) (T := T) ⟨hT.asc, hT.mem⟩ (fun a ha => let g := h a ha; ⟨g.ov, g.ni, g.pre, g.over⟩) (fun f hf => by
    have : f ∈ ([] : List Fact) := hf
    simp at this)
  exact ⟨hF.ov, hF.ni, hF.pre, hF.over⟩
theorem Safe.seen (h : Safe t L) (a : Int) : Seen t L a :=
  ⟨h.ov a, h.ni a, fun x hx e f hf => by subst e; exact h.pre x hx f hf, fun i hi h1 h2 f hf => h.over i hi a h1 h2 f hf⟩
/-! ### two plans together -/
theorem lau_app_l {i : Nat} (h : i < A.length) : lau (A ++ B) i = lau A i := by
  have h1 := lau_get (L := A ++ B) (i := i) (by simp; omega)
  rw [List.getElem?_append_left h, lau_get h] at h1
  exact (Zu h1).symm
theorem lau_app_r {i : Nat} (h : i < B.length) : lau (A ++ B) (A.length + i) = lau B i := by
  have h1 := lau_get (L := A ++ B) (i := A.length + i) (by simp; omega)
  rw [List.getElem?_append_right (by omega), Nat.add_sub_cancel_left, lau_get h] at h1
  exact (Zu h1).symm
/-- One of the plans within both. -/
structure Side (L M N : List Launch) (f g : Nat → Nat) : Prop where
  f1 : ∀ i, i < M.length → f i < L.length ∧ lau L (f i) = lau M i
  g1 : ∀ i, i < N.length → g i < L.length ∧ lau L (g i) = lau N i
  cov : ∀ i, i < L.length → (∃ j, j < M.length ∧ f j = i) ∨ ∃ j, j < N.length ∧ g j = i
  inj : ∀ i j, f i = f j → i = j
theorem side_l : Side (A ++ B) A B (fun i => i) (fun i => A.length + i) where
  f1 i h := ⟨by simp; omega, lau_app_l h⟩
  g1 i h := ⟨by simp; omega, lau_app_r h⟩
  cov i h := by
    rw [List.length_append] at h
    by_cases c : i < A.length
    · exact .inl ⟨i, c, rfl⟩
    · exact .inr ⟨i - A.length, by omega, by omega⟩
  inj i j h := h
theorem side_r : Side (A ++ B) B A (fun i => A.length + i) (fun i => i) where
  f1 i h := ⟨by simp; omega, lau_app_r h⟩
  g1 i h := ⟨by simp; omega, lau_app_l h⟩
  cov i h := by
    rw [List.length_append] at h
    by_cases c : i < A.length
    · exact .inr ⟨i, c, rfl⟩
    · exact .inl ⟨i - A.length, by omega, by omega⟩
  inj i j h := by omega
/-- No happening of one writes what one of the other reads or writes, or needs meanwhile. -/
def Apart (t : Temporal) (M N : List Launch) : Prop := ∀ x ∈ M, ∀ y ∈ N, x.Job ≠ y.Job ∧ confB (jb t x) (jb t y) = false
theorem Apart.symm {M N : List Launch} (h : Apart t M N) : Apart t N M := fun x hx y hy => ⟨Ne.symm (h y hy x hx).1, by rw [confB_comm]; exact (h y hy x hx).2⟩
theorem conf_int {a b : Job} (h : confB a b = false) (ea eb : Bool) : intB a b ea eb = false := by
  unfold confB at h
  rw [Bool.or_eq_false_iff] at h
  have := h.1
  simp only [List.any_cons, List.any_nil, Bool.or_false, Bool.or_eq_false_iff] at this
  cases ea <;> cases eb <;> simp [this]
theorem conf_over {a b : Job} (h : confB a b = false) (e : Bool) : meetB (wrH b e) a.Over = false := by
  unfold confB at h
  rw [Bool.or_eq_false_iff] at h
  have := h.2
  simp only [List.any_cons, List.any_nil, Bool.or_false, Bool.or_eq_false_iff] at this
  cases e <;> simp [this]
variable {M N : List Launch} {f g : Nat → Nat}
theorem Side.val (hS : Side L M N f g) {v : Nat} {τ c : Int} (hN : ∀ j, j < N.length → ∀ b d, ¬ Wv t N (j, b) v d) (h : IsVal t M v τ c) : IsVal t L v τ c := by
  have tm : ∀ i b, i < M.length → tmH t L (f i, b) = tmH t M (i, b) := fun i b hi => by unfold tmH; simp only [(hS.f1 i hi).2]
  have wv : ∀ i b d, i < M.length → (Wv t L (f i, b) v d ↔ Wv t M (i, b) v d) := fun i b d hi => by unfold Wv wrX jH; simp only [(hS.f1 i hi).2]
  have back : ∀ y : Nat × Bool, y.1 < L.length → (∃ d, Wv t L y v d) → ∃ j, j < M.length ∧ f j = y.1 := fun ⟨i, b⟩ hy ⟨d, hd⟩ => by
    rcases hS.cov i hy with h | ⟨j, hj, rfl⟩
    · exact h
    · exfalso
      refine hN j hj b d ?_
      unfold Wv wrX jH at hd ⊢
      rwa [(hS.g1 j hj).2] at hd
  rcases h with ⟨⟨i, b⟩, h1, h2, h3, h4⟩ | ⟨h1, h2⟩
  · refine .inl ⟨(f i, b), (hS.f1 i h1).1, by rw [tm i b h1]; exact h2, (wv i b c h1).2 h3, fun y hy hyt hw => ?_⟩
    obtain ⟨j, hj, e⟩ := back y hy hw
    obtain ⟨yi, yb⟩ := y
    simp only at e
    subst e
    rw [tm j yb hj, tm i b h1]
    rw [tm j yb hj] at hyt
    obtain ⟨d, hd⟩ := hw
    exact h4 (j, yb) hj hyt ⟨d, (wv j yb d hj).1 hd⟩
  · refine .inr ⟨fun y hy hw => ?_, h2⟩
    obtain ⟨j, hj, e⟩ := back y hy hw
    obtain ⟨yi, yb⟩ := y
    simp only at e
    subst e
    rw [tm j yb hj]
    obtain ⟨d, hd⟩ := hw
    exact h1 (j, yb) hj ⟨d, (wv j yb d hj).1 hd⟩
theorem Side.pre (hM : ∀ l ∈ M, 0 ≤ l.Job) (hS : Side L M N f g) (hap : Apart t M N) (hs : Safe t M) (hAL : Acc t L) {i : Nat} {b : Bool} (hi : i < M.length) : ∀ x ∈ rdX t L (f i, b), IsVal t L x.Var.toNat (tmH t L (f i, b) - 1) x.Val := by
  intro x hx
  have e := (hS.f1 i hi).2
  have hx' : x ∈ rdX t M (i, b) := by unfold rdX jH at hx ⊢; simpa only [e] using hx
  have et : tmH t L (f i, b) = tmH t M (i, b) := by unfold tmH; simp only [e]
  rw [et]
  have hv0 := (rdX_ok hAL (x := (f i, b)) (hS.f1 i hi).1).rng x hx
  refine hS.val (fun j hj b' d hw => ?_) (hs.pre (i, b) hi x hx')
  obtain ⟨y, hy, hyv, _⟩ := hw
  have := conf_int (hap _ (lau_mem hi) _ (lau_mem hj)).2 b b'
  unfold intB at this
  rw [Bool.or_eq_false_iff] at this
  have h2 := this.2
  have : meetB (rdH (jb t (lau M i)) b) (wrH (jb t (lau N j)) b') = true := meetB_iff.2 ⟨x, hx', y, hy, by omega⟩
  rw [h2] at this; cases this
theorem Side.over (hS : Side L M N f g) (hap : Apart t M N) (hs : Safe t M) (hAL : Acc t L) {i : Nat} (hi : i < M.length) {τ : Int} (h1 : (lau L (f i)).At ≤ τ) (h2 : τ < endT t (lau L (f i))) : ∀ x ∈ (jb t (lau L (f i))).Over, IsVal t L x.Var.toNat τ x.Val := by
  intro x hx
  have e := (hS.f1 i hi).2
  have hv0 := (hAL.chk.job _ (jb_mem (hAL.ok _ (lau_mem (hS.f1 i hi).1)))).over.rng x hx
  rw [e] at h1 h2 hx
  refine hS.val (fun j hj b' d hw => ?_) (hs.over i hi τ h1 h2 x hx)
  obtain ⟨y, hy, hyv, _⟩ := hw
  have h2 := conf_over (hap _ (lau_mem hi) _ (lau_mem hj)).2 b'
  have : meetB (wrH (jb t (lau N j)) b') (jb t (lau M i)).Over = true := meetB_iff.2 ⟨y, hy, x, hx, by omega⟩
  rw [h2] at this; cases this
theorem Side.ov (hS : Side L M N f g) (hap : Apart t M N) (hs : Safe t M) {a : Int} {i k : Nat} (hi : i < M.length) (hk : k < L.length) (hne : f i ≠ k) (h1 : (lau L (f i)).At = a) (h2 : (lau L (f i)).Job = (lau L k).Job) : ¬ ((lau L k).At ≤ a ∧ a ≤ endT t (lau L k)) := by
  have e := (hS.f1 i hi).2
  rw [e] at h1 h2
  rcases hS.cov k hk with ⟨j, hj, rfl⟩ | ⟨j, hj, rfl⟩
  · rw [(hS.f1 j hj).2] at h2 ⊢
    exact hs.ov a i j hi hj (fun h => hne (by rw [h])) h1 h2
  · rw [(hS.g1 j hj).2] at h2
    exact absurd h2 (hap _ (lau_mem hi) _ (lau_mem hj)).1
theorem Side.ni (hS : Side L M N f g) (hap : Apart t M N) (hs : Safe t M) {a : Int} {i : Nat} {b : Bool} (hi : i < M.length) {y : Nat × Bool} (hy : y.1 < L.length) (h1 : tmH t L (f i, b) = a) (h2 : tmH t L y = a) (hne : (f i, b) ≠ y) : intX t L (f i, b) y = false := by
  have e := (hS.f1 i hi).2
  obtain ⟨k, b'⟩ := y
  rcases hS.cov k hy with ⟨j, hj, rfl⟩ | ⟨j, hj, rfl⟩
  · have e' := (hS.f1 j hj).2
    have := hs.ni a (i, b) (j, b') hi hj (by rw [← h1]; unfold tmH; simp only [e]) (by rw [← h2]; unfold tmH; simp only [e']) (fun h => hne (by cases h; rfl))
    unfold intX jH at this ⊢
    simpa only [e, e'] using this
  · have e' := (hS.g1 j hj).2
    unfold intX jH
    simp only [e, e']
    exact conf_int (hap _ (lau_mem hi) _ (lau_mem hj)).2 b b'
theorem safe_app (hAL : Acc t (A ++ B)) (hap : Apart t A B) (ha : Safe t A) (hb : Safe t B) : Safe t (A ++ B) := by
  have sl := side_l (A := A) (B := B)
  have sr := side_r (A := A) (B := B)
  have cv : ∀ i, i < (A ++ B).length → (∃ j, j < A.length ∧ j = i) ∨ ∃ j, j < B.length ∧ A.length + j = i := sl.cov
  refine ⟨fun a i k hi hk hne h1 h2 => ?_, fun a x y hx hy h1 h2 hne => ?_, fun x hx => ?_, fun i hi τ h1 h2 => ?_⟩
  · rcases cv i hi with ⟨j, hj, rfl⟩ | ⟨j, hj, rfl⟩
    · exact sl.ov hap ha hj hk hne h1 h2
    · exact sr.ov hap.symm hb hj hk hne h1 h2
  · obtain ⟨i, b⟩ := x
    rcases cv i hx with ⟨j, hj, rfl⟩ | ⟨j, hj, rfl⟩
    · exact sl.ni hap ha hj hy h1 h2 hne
    · exact sr.ni hap.symm hb hj hy h1 h2 hne
  · obtain ⟨i, b⟩ := x
    rcases cv i hx with ⟨j, hj, rfl⟩ | ⟨j, hj, rfl⟩
    · exact sl.pre (fun l hl => (hAL.ok l (by simp [hl])).j0) hap ha hAL hj
    · exact sr.pre (fun l hl => (hAL.ok l (by simp [hl])).j0) hap.symm hb hAL hj
  · rcases cv i hi with ⟨j, hj, rfl⟩ | ⟨j, hj, rfl⟩
    · exact sl.over hap ha hAL hj h1 h2
    · exact sr.over hap.symm hb hAL hj h1 h2
theorem eqs2 (a b c d : Int) : eqs [a, b] [c, d] = (decide (a = c) && decide (b = d)) := by simp [eqs]
theorem simulateJoins_ok {fu : Nat} (hfu : 1000 ≤ fu) (t : Temporal) (A B : List Launch) : law58_SimulateJoins_p fu t A B = some true := by
  unfold law58_SimulateJoins_p
  rw [awake_ok hfu]
  obtain ⟨x, hx1, hx2⟩ := few_ok t A
  obtain ⟨y, hy1, hy2⟩ := few_ok t B
  simp only [Option.bind_some, hx1, hy1, Bool.not_true, Bool.false_eq_true, if_false]
  cases x with
  | false => rfl
  | true =>
  cases y with
  | false => rfl
  | true =>
  obtain ⟨ht, hnA⟩ := hx2 rfl
  have hnB := (hy2 rfl).2
  obtain ⟨p, hp1, hp2, _⟩ := harmless_ok hfu ht (L := A) (by omega)
  obtain ⟨q, hq1, hq2, _⟩ := harmless_ok hfu ht (L := B) (by omega)
  simp only [hp1, hq1, Option.bind_some, Bool.not_true, Bool.false_eq_true, if_false]
  cases p with
  | false => rfl
  | true =>
  cases q with
  | false => rfl
  | true =>
  obtain ⟨hA, TA, hTA, hsA⟩ := hp2 rfl
  obtain ⟨hB, TB, hTB, hsB⟩ := hq2 rfl
  have sA := Safe.of hTA hsA
  have sB := Safe.of hTB hsB
  simp only [Bool.not_true, Bool.false_eq_true, if_false, Option.bind_some]
  rw [Conflicts_ok hA.check hA.chk]
  simp only [Option.bind_some, un2, Option.isSome_none, Bool.false_eq_true, if_false]
  have clash : ∀ x ∈ A, ∀ y ∈ B, x.Job ≠ y.Job → ¬ (∃ c ∈ cfL t, (c.a0 = x.Job ∧ c.a1 = y.Job) ∨ (c.a0 = y.Job ∧ c.a1 = x.Job)) → x.Job ≠ y.Job ∧ confB (jb t x) (jb t y) = false := fun x hx y hy hne hno => by
    refine ⟨hne, ?_⟩
    have ox := hA.ok x hx
    have oy := hB.ok y hy
    have j0 := ox.j0; have j1 := ox.j1; have k0 := oy.j0; have k1 := oy.j1
    cases hc : confB (jb t x) (jb t y)
    · rfl
    · exfalso
      refine hno ?_
      rcases (by omega : x.Job < y.Job ∨ y.Job < x.Job) with h | h
      · refine ⟨⟨(x.Job.toNat : Int), (y.Job.toNat : Int)⟩, mem_cfL (by omega) (by omega) hc, .inl ⟨by simp only; omega, by simp only; omega⟩⟩
      · refine ⟨⟨(y.Job.toNat : Int), (x.Job.toNat : Int)⟩, mem_cfL (by omega) (by omega) (by rw [confB_comm]; exact hc), .inr ⟨by simp only; omega, by simp only; omega⟩⟩
  refine Ok.eq (Ok.ctl (fun j _ => Apart t (A.take j) B) (fun r => r = true) (fun x hx => by simp at hx) ?_ (fun r hr => ⟨r, rfl, hr⟩) fun _ hap => ?_)
  · intro i _ hi hap
    refine Ok.step (a := A[i]) (by rw [idx_nat, List.getElem?_eq_getElem hi]) ?_
    refine Ok.ctl (fun k _ => ∀ y ∈ B.take k, A[i].Job ≠ y.Job ∧ confB (jb t A[i]) (jb t y) = false) (fun r => r = true) (by simp) ?_ (fun r hr => ⟨_, rfl, hr⟩) fun _ hk => ⟨_, rfl, fun x hx y hy => ?_⟩
    · intro k _ hk hin
      refine Ok.step (a := B[k]) (by rw [idx_nat, List.getElem?_eq_getElem hk]) ?_
      refine Ok.ite (fun _ => ⟨_, rfl, rfl⟩) fun hne => ?_
      have hne := dec_f hne
      refine Ok.ctl (fun m _ => ∀ c ∈ (cfL t).take m, ¬ ((c.a0 = A[i].Job ∧ c.a1 = B[k].Job) ∨ (c.a0 = B[k].Job ∧ c.a1 = A[i].Job))) (fun r => r = true) (by simp) ?_ (fun r hr => ⟨_, rfl, hr⟩) fun _ hm => ⟨_, rfl, fun y hy => ?_⟩
      · intro m _ hm hcm
        refine Ok.step (a := (cfL t)[m]) (by rw [idx_nat, List.getElem?_eq_getElem hm]) ?_
        rw [eqs2, eqs2]
        refine Ok.ite (fun _ => ⟨_, rfl, rfl⟩) fun hc => ⟨_, rfl, fun c hc' => ?_⟩
        rw [take_snoc hm] at hc'
        rcases List.mem_append.1 hc' with hc' | hc'
        · exact hcm c hc'
        · rw [List.mem_singleton] at hc'
          subst hc'
          simp only [Bool.or_eq_false_iff, Bool.and_eq_false_iff, decide_eq_false_iff_not] at hc
          omega
      · rw [List.take_length] at hm
        rw [take_snoc hk] at hy
        rcases List.mem_append.1 hy with hy | hy
        · exact hin y hy
        · rw [List.mem_singleton] at hy
          subst hy
          exact clash _ (List.getElem_mem hi) _ (List.getElem_mem hk) hne fun ⟨c, h1, h2⟩ => hm c h1 h2
    · rw [List.take_length] at hk
      rw [take_snoc hi] at hx
      rcases List.mem_append.1 hx with hx | hx
      · exact hap x hx y hy
      · rw [List.mem_singleton] at hx
        subst hx
        exact hk y hy
  · rw [List.take_length] at hap
    rw [app_ok (by simp; omega), Option.bind_some, List.nil_append, app_ok (by omega), Option.bind_some]
    have hAL : Acc t (A ++ B) := ⟨hA.check, hA.chk, by simp; omega, fun l hl => by
      rcases List.mem_append.1 hl with hl | hl
      · exact hA.ok l hl
      · exact hB.ok l hl⟩
    obtain ⟨T, hT⟩ := ticks_ex hAL
    have hs := safe_app hAL hap sA sB
    obtain ⟨r, h1, _, h3⟩ := harmless_ok hfu ht (L := A ++ B) (by simp; omega)
    exact ⟨r, by rw [h1]; rfl, h3 T hAL hT fun a _ => hs.seen a⟩
end
end Go.Pw
