/-
  Plans in another order; what a network's solutions are.
-/
import Derived.Test.YtoofdhjblbnppaaGreatYzHDD
import Derived.Test.YtoofdhjblbnppaaGreatYzC
set_option linter.unusedVariables false
set_option linter.unusedSimpArgs false
namespace Go.Pw
theorem perm_ix {α : Type} {l1 l2 : List α} (h : l1.Perm l2) : ∃ f g : Nat → Nat, (∀ i, i < l1.length → f i < l2.length ∧ g (f i) = i ∧ l2[f i]? = l1[i]?) ∧ (∀ i, i < l2.length → g i < l1.length ∧ f (g i) = i) := by
  induction h with
  | nil => exact ⟨id, id, fun i hi => by simp at hi, fun i hi => by simp at hi⟩
  | cons x h ih =>
    obtain ⟨f, g, h1, h2⟩ := ih
    refine ⟨fun i => match i with | 0 => 0 | i + 1 => f i + 1, fun i => match i with | 0 => 0 | i + 1 => g i + 1, fun i hi => ?_, fun i hi => ?_⟩
    · cases i with
      | zero => exact ⟨by simp, rfl, rfl⟩
      | succ i =>
        obtain ⟨a, b, c⟩ := h1 i (by simpa using hi)
        exact ⟨by simpa using a, by simp [b], by simpa using c⟩
    · cases i with
      | zero => exact ⟨by simp, rfl⟩
      | succ i =>
        obtain ⟨a, b⟩ := h2 i (by simpa using hi)
        exact ⟨by simpa using a, by simp [b]⟩
  | swap x y l =>
    refine ⟨fun i => match i with | 0 => 1 | 1 => 0 | i + 2 => i + 2, fun i => match i with | 0 => 1 | 1 => 0 | i + 2 => i + 2, fun i hi => ?_, fun i hi => ?_⟩
    · rcases i with _ | _ | i
      · exact ⟨by simp, rfl, rfl⟩
      · exact ⟨by simp, rfl, rfl⟩
      · exact ⟨by simpa using hi, rfl, rfl⟩
    · rcases i with _ | _ | i
      · exact ⟨by simp, rfl⟩
      · exact ⟨by simp, rfl⟩
      · exact ⟨by simpa using hi, rfl⟩
  | trans _ _ ih1 ih2 =>
    obtain ⟨f, g, h1, h2⟩ := ih1
    obtain ⟨f', g', k1, k2⟩ := ih2
    refine ⟨fun i => f' (f i), fun i => g (g' i), fun i hi => ?_, fun i hi => ?_⟩
    · obtain ⟨a, b, c⟩ := h1 i hi
      obtain ⟨a', b', c'⟩ := k1 (f i) a
      exact ⟨a', by show g (g' (f' (f i))) = i; rw [b', b], c'.trans c⟩
    · obtain ⟨a', b'⟩ := k2 i hi
      obtain ⟨a, b⟩ := h2 (g' i) a'
      exact ⟨a, by show f' (f (g (g' i))) = i; rw [b, b']⟩
section
variable {t : Temporal} {L S : List Launch}
theorem Acc.perm (h : Acc t L) (hp : L.Perm S) : Acc t S := ⟨h.check, h.chk, by rw [← hp.length_eq]; exact h.len, fun l hl => h.ok l (hp.mem_iff.2 hl)⟩
theorem mkS_perm (hp : L.Perm S) : mkS t L = mkS t S := by
  have h1 : mkS t L ≤ mkS t S := mkS_le mkS_ge.1 fun l hl => mkS_ge.2 l (hp.mem_iff.1 hl)
  have h2 : mkS t S ≤ mkS t L := mkS_le mkS_ge.1 fun l hl => mkS_ge.2 l (hp.mem_iff.2 hl)
  omega
theorem lau_perm {f : Nat → Nat} {i : Nat} (e : S[f i]? = L[i]?) : lau S (f i) = lau L i := by
  unfold lau; rw [List.getElem!_eq_getElem?_getD, List.getElem!_eq_getElem?_getD, e]
theorem IsVal.perm {f g : Nat → Nat} (h1 : ∀ i, i < L.length → f i < S.length ∧ g (f i) = i ∧ S[f i]? = L[i]?) (h2 : ∀ i, i < S.length → g i < L.length ∧ f (g i) = i) {v : Nat} {τ c : Int} (h : IsVal t L v τ c) : IsVal t S v τ c := by
  have e1 : ∀ i, i < L.length → lau S (f i) = lau L i := fun i hi => lau_perm (h1 i hi).2.2
  have e2 : ∀ i, i < S.length → lau L (g i) = lau S i := fun i hi => by
    have := e1 (g i) (h2 i hi).1
    rw [(h2 i hi).2] at this
    exact this.symm
  have t2 : ∀ y : Nat × Bool, y.1 < S.length → tmH t L (g y.1, y.2) = tmH t S y := fun y hy => by unfold tmH; rw [e2 _ hy]
  have w2 : ∀ y : Nat × Bool, y.1 < S.length → ∀ d, Wv t S y v d → Wv t L (g y.1, y.2) v d := fun y hy d hd => by
    unfold Wv wrX jH at hd ⊢; rw [e2 _ hy]; exact hd
  rcases h with ⟨x, g1, g2, g3, g4⟩ | ⟨g1, g2⟩
  · have tx : tmH t S (f x.1, x.2) = tmH t L x := by unfold tmH; rw [e1 _ g1]
    refine .inl ⟨(f x.1, x.2), (h1 _ g1).1, by rw [tx]; exact g2, ?_, fun y hy ty ⟨d, hd⟩ => ?_⟩
    · unfold Wv wrX jH at g3 ⊢; rw [e1 _ g1]; exact g3
    · rw [tx, ← t2 y hy]
      exact g4 _ (h2 _ hy).1 (by rw [t2 y hy]; exact ty) ⟨d, w2 y hy d hd⟩
  · refine .inr ⟨fun y hy ⟨d, hd⟩ => ?_, g2⟩
    rw [← t2 y hy]
    exact g1 _ (h2 _ hy).1 ⟨d, w2 y hy d hd⟩
theorem Fine.perm (h : Fine t L) (hp : L.Perm S) : Fine t S := by
  obtain ⟨f, g, h1, h2⟩ := perm_ix hp
  have e1 : ∀ i, i < L.length → lau S (f i) = lau L i := fun i hi => lau_perm (h1 i hi).2.2
  have e2 : ∀ i, i < S.length → lau L (g i) = lau S i := fun i hi => by
    have := e1 (g i) (h2 i hi).1
    rw [(h2 i hi).2] at this
    exact this.symm
  have inj : ∀ i k, i < S.length → k < S.length → i ≠ k → g i ≠ g k := fun i k hi hk hne e => hne (by rw [← (h2 i hi).2, ← (h2 k hk).2, e])
  have t2 : ∀ y : Nat × Bool, y.1 < S.length → tmH t L (g y.1, y.2) = tmH t S y := fun y hy => by unfold tmH; rw [e2 _ hy]
  refine ⟨fun a i k hi hk hne ha hj => ?_, fun a x y hx hy tx ty hne => ?_, fun x hx f hf => ?_, fun i hi τ a1 a2 f hf => ?_, fun f hf => ?_⟩
  · have := h.ov a (g i) (g k) (h2 i hi).1 (h2 k hk).1 (inj i k hi hk hne)
    rw [e2 _ hi, e2 _ hk] at this
    exact this ha hj
  · have := h.ni a (g x.1, x.2) (g y.1, y.2) (h2 _ hx).1 (h2 _ hy).1 (by rw [t2 x hx]; exact tx) (by rw [t2 y hy]; exact ty) fun e => by
      simp only [Prod.mk.injEq] at e
      obtain ⟨a, b⟩ := x
      obtain ⟨c, d⟩ := y
      simp only at e hx hy
      by_cases c' : a = c
      · exact hne (by rw [c', e.2])
      · exact inj a c hx hy c' e.1
    unfold intX jH at this ⊢
    simp only at this
    rw [e2 _ hx, e2 _ hy] at this
    exact this
  · have hx' := (h2 _ hx).1
    have := h.pre (g x.1, x.2) hx' f (by unfold rdX jH at hf ⊢; rw [e2 _ hx]; exact hf)
    rw [t2 x hx] at this
    exact this.perm h1 h2
  · have := h.over (g i) (h2 i hi).1 τ (by rw [e2 _ hi]; exact a1) (by rw [e2 _ hi]; exact a2) f (by rw [e2 _ hi]; exact hf)
    exact this.perm h1 h2
  · rw [← mkS_perm hp]
    exact (h.goal f hf).perm h1 h2
/-! ### times -/
def LU (S : List Launch) (U : Nat → Int) : List Launch := S.mapIdx fun i l => ⟨U i, l.Job⟩
theorem LU_len (S : List Launch) (U : Nat → Int) : (LU S U).length = S.length := by simp [LU]
theorem LU_lau {U : Nat → Int} {i : Nat} (h : i < S.length) : lau (LU S U) i = ⟨U i, (lau S i).Job⟩ := by
  have e : (LU S U)[i]? = some ⟨U i, (lau S i).Job⟩ := by
    unfold LU
    rw [List.getElem?_mapIdx, lau_get h]; rfl
  unfold lau
  rw [List.getElem!_eq_getElem?_getD, e]; rfl
def tmU (t : Temporal) (S : List Launch) (U : Nat → Int) (x : Nat × Bool) : Int := if x.2 then U x.1 + (jH t S x).Duration else U x.1
theorem LU_tm {U : Nat → Int} {x : Nat × Bool} (h : x.1 < S.length) : tmH t (LU S U) x = tmU t S U x := by
  unfold tmH tmU endT jH jb; rw [LU_lau h]
structure Sol (t : Temporal) (S : List Launch) (U : Nat → Int) : Prop where
  st : ∀ i, i < S.length → 0 ≤ U i
  od : ∀ x y : Nat × Bool, x.1 < S.length → y.1 < S.length → x.1 ≠ y.1 → intX t S x y = true → tmH t S x < tmH t S y → tmU t S U x + 1 ≤ tmU t S U y
  o1 : ∀ i (x : Nat × Bool), i < S.length → x.1 < S.length → x.1 ≠ i → meetB (wrX t S x) (jb t (lau S i)).Over = true → tmH t S x ≤ (lau S i).At → tmU t S U x ≤ U i
  o2 : ∀ i (x : Nat × Bool), i < S.length → x.1 < S.length → x.1 ≠ i → meetB (wrX t S x) (jb t (lau S i)).Over = true → endT t (lau S i) ≤ tmH t S x → U i + (jb t (lau S i)).Duration ≤ tmU t S U x
  rp : ∀ i k, i < k → k < S.length → (lau S k).Job = (lau S i).Job → (∀ m, i < m → m < k → (lau S m).Job ≠ (lau S i).Job) → U i + (jb t (lau S i)).Duration + 1 ≤ U k
/-- Launches by time, then by job. -/
def SL (S : List Launch) : Prop := ∀ i k, i < k → k < S.length → (lau S i).At < (lau S k).At ∨ (lau S i).At = (lau S k).At ∧ (lau S i).Job ≤ (lau S k).Job
theorem Sol.chain {U : Nat → Int} (h : Sol t S U) (hA : Acc t S) : ∀ n i k, k - i ≤ n → i < k → k < S.length → (lau S k).Job = (lau S i).Job → U i + (jb t (lau S i)).Duration + 1 ≤ U k
  | 0, i, k, hn, hik, hk, hj => by omega
  | n + 1, i, k, hn, hik, hk, hj => by
    by_cases c : ∃ m, i < m ∧ m < k ∧ (lau S m).Job = (lau S i).Job
    · obtain ⟨m, m1, m2, m3⟩ := c
      have h1 := h.chain hA n i m (by omega) m1 (by omega) m3
      have h2 := h.chain hA n m k (by omega) m2 hk (hj.trans m3.symm)
      have h3 := dur_pos hA (i := m) (by omega)
      omega
    · exact h.rp i k hik hk hj fun m m1 m2 m3 => c ⟨m, m1, m2, m3⟩
theorem Sol.resch {U : Nat → Int} (h : Sol t S U) (hA : Acc t S) (hs : SL S) (hU : ∀ i, i < S.length → U i ≤ 1048576) : Resch t S (LU S U) := by
  refine ⟨LU_len _ _, fun i hi => by rw [LU_lau hi], fun l hl => ?_, fun x y hx hy hne hi hlt => ?_, fun i x hi hx hne hm hle => ?_, fun i x hi hx hne hm hle => ?_, fun i k hi hk hne hj hlt => ?_⟩
  · obtain ⟨i, hi, rfl⟩ := List.mem_iff_getElem.1 hl
    rw [LU_len] at hi
    have e : (LU S U)[i]'(by rw [LU_len]; exact hi) = lau (LU S U) i := by simp [lau, LU_len, hi]
    rw [e, LU_lau hi]
    have := hA.ok _ (lau_mem hi)
    exact ⟨this.j0, this.j1, h.st i hi, hU i hi⟩
  · rw [LU_tm hx, LU_tm hy]
    have := h.od x y hx hy hne hi hlt; omega
  · rw [LU_tm hx, LU_lau hi]
    exact h.o1 i x hi hx hne hm hle
  · rw [LU_tm hx, LU_lau hi]
    exact h.o2 i x hi hx hne hm hle
  · rw [LU_lau hi, LU_lau hk]
    have hik : i < k := by
      rcases Nat.lt_trichotomy i k with c | c | c
      · exact c
      · exact absurd c hne
      · have := hs k i c hi; omega
    have := h.chain hA _ i k (Nat.le_refl _) hik hk hj.symm
    show U i + (jb t (lau S i)).Duration < U k
    omega
theorem Sol.self (hA : Acc t S) (hF : Fine t S) (hs : SL S) : Sol t S (fun i => (lau S i).At) := by
  have e : ∀ x : Nat × Bool, tmU t S (fun i => (lau S i).At) x = tmH t S x := fun x => rfl
  refine ⟨fun i hi => (hA.ok _ (lau_mem hi)).a0, fun x y hx hy hne hi hlt => ?_, fun i x hi hx hne hm hle => ?_, fun i x hi hx hne hm hle => ?_, fun i k hik hk hj hm => ?_⟩
  · rw [e, e]; omega
  · rw [e]; exact hle
  · rw [e]; exact hle
  · have h1 := hs i k hik hk
    have h2 := hF.ov _ k i hk (by omega) (by omega) rfl hj
    have h3 : (lau S k).At > endT t (lau S i) := by
      by_cases c : (lau S k).At ≤ endT t (lau S i)
      · exact absurd ⟨by omega, c⟩ h2
      · omega
    show (lau S i).At + (jb t (lau S i)).Duration + 1 ≤ (lau S k).At
    unfold endT at h3
    omega
end
end Go.Pw
/-
  The plan that is read; the bounds of its network, as lists.
-/
namespace Go.Pw
/-! ### loops that count on -/
theorem Ok.whileF {S R β : Type} {B : Int × S → Option (Ctl (Int × S) R)} {m n : Nat} {s : S} {Q : β → Prop} {kr : R → Option β} {k : Int × S → Option β} (Inv : Nat → S → Prop) (Bq : S → Prop) (Rp : R → Prop) (hmn : m ≤ n) (h0 : Inv m s)
    (h : ∀ (j : Nat) (s : S), m ≤ j → j < n → Inv j s → Ok (B ((j : Int), s)) fun c => match c with | .next q => q.1 = ((j + 1 : Nat) : Int) ∧ Inv (j + 1) q.2 | .brk q => Bq q.2 | .ret r => Rp r)
    (he : ∀ s, Inv n s → Ok (B ((n : Int), s)) fun c => ∃ q, c = .brk q ∧ Bq q.2)
    (hr : ∀ r, Rp r → Ok (kr r) Q) (hk : ∀ q, Bq q.2 → Ok (k q) Q) : Ok (Go.Pw.ctl (whileC B ((m : Int), s)) kr k) Q := by
  refine Ok.while (fun q => ∃ j : Nat, q.1 = (j : Int) ∧ m ≤ j ∧ j ≤ n ∧ Inv j q.2) (fun q => Bq q.2) Rp (fun q => n - q.1.toNat) ⟨m, rfl, Nat.le_refl _, hmn, h0⟩ ?_ hr (fun q hq => hk q hq)
  rintro ⟨i, s⟩ ⟨j, hj, hm, hle, hI⟩
  simp only at hj hI
  subst hj
  by_cases hlt : j < n
  · obtain ⟨c, hc, hP⟩ := h j s hm hlt hI
    refine ⟨c, hc, ?_, ?_, ?_⟩
    · rintro ⟨i', s'⟩ rfl
      simp only at hP
      refine ⟨⟨j + 1, hP.1, by omega, hlt, hP.2⟩, ?_⟩
      simp only [hP.1]
      omega
    · rintro s' rfl; exact hP
    · rintro r rfl; exact hP
  · obtain rfl : j = n := by omega
    obtain ⟨c, hc, q, rfl, hq⟩ := he s hI
    refine ⟨_, hc, fun s' e => (by cases e), fun s' e => ?_, fun r e => (by cases e)⟩
    cases e; exact hq
theorem flat_le {α β : Type} (f : α → List β) (c : Nat) : ∀ l : List α, (∀ x ∈ l, (f x).length ≤ c) → (l.flatMap f).length ≤ l.length * c
  | [], _ => by simp
  | x :: l, h => by
    rw [List.flatMap_cons, List.length_append, List.length_cons, Nat.add_mul]
    have h1 := h x (by simp)
    have h2 := flat_le f c l fun y hy => h y (List.mem_cons_of_mem _ hy)
    omega
/-! ### the sorted launches -/
noncomputable def srtL (l : List Launch) : List Launch := l.mergeSort fun x y => !decide (cmpL y x < 0)
theorem srtL_perm (l : List Launch) : (srtL l).Perm l := List.mergeSort_perm l _
def LeL (a b : Launch) : Prop := a.At < b.At ∨ a.At = b.At ∧ a.Job ≤ b.Job
theorem srtL_le (l : List Launch) : (srtL l).Pairwise LeL := by
  have : (srtL l).Pairwise (fun x y => (!decide (cmpL y x < 0)) = true) := by
    apply List.pairwise_mergeSort
    · intro a b c h1 h2; simp only [Bool.not_eq_true', decide_eq_false_iff_not, cmpL_neg] at *; omega
    · intro a b; simp only [Bool.or_eq_true, Bool.not_eq_true', decide_eq_false_iff_not, cmpL_neg]; omega
  refine this.imp fun {a b} h => ?_
  simp only [Bool.not_eq_true', decide_eq_false_iff_not, cmpL_neg] at h
  unfold LeL; omega
theorem LeL.anti {a b : Launch} (h1 : LeL a b) (h2 : LeL b a) : a = b := by
  unfold LeL at *
  obtain ⟨a1, a2⟩ := a
  obtain ⟨b1, b2⟩ := b
  simp only [Launch.mk.injEq] at *
  omega
theorem srtL_uniq {l k : List Launch} (h : k.Perm l) (hk : k.Pairwise LeL) : srtL l = k :=
  List.Perm.eq_of_pairwise (fun a b _ _ h1 h2 => h1.anti h2) (srtL_le l) hk ((srtL_perm l).trans h.symm)
theorem SL.of {S : List Launch} (h : S.Pairwise LeL) : SL S := by
  intro i k hik hk
  have := List.pairwise_iff_getElem.1 h i k (by omega) hk hik
  have e1 : lau S i = S[i] := by simp [lau, show i < S.length by omega]
  have e2 : lau S k = S[k] := by simp [lau, hk]
  rw [e1, e2]
  unfold LeL at this
  omega
/-! ### the plan -/
def ptH (x : Nat × Bool) : Int := if x.2 then 2 * (x.1 : Int) + 2 else 2 * (x.1 : Int) + 1
def hpS (t : Temporal) (S : List Launch) (x : Nat × Bool) : schedule_happening := ⟨ptH x, tmH t S x, (lau S x.1).Job, x.2⟩
def planOf (t : Temporal) (S : List Launch) : schedule_plan := ⟨t, S, (List.range S.length).map fun i => hpS t S (i, false), (List.range S.length).map fun i => hpS t S (i, true)⟩
theorem start_ok {i : Nat} (h : i < 1000) : schedule_start_t (i : Int) = 2 * (i : Int) + 1 := by
  unfold schedule_start_t; rw [wrap_id (n := 2 * (i : Int)) (by omega) (by omega), wrap_id (by omega) (by omega)]
theorem end_ok' {i : Nat} (h : i < 1000) : schedule_end_t (i : Int) = 2 * (i : Int) + 2 := by
  unfold schedule_end_t; rw [wrap_id (n := 2 * (i : Int)) (by omega) (by omega), wrap_id (by omega) (by omega)]
theorem range_snoc_map {α : Type} (f : Nat → α) (n : Nat) : (List.range (n + 1)).map f = (List.range n).map f ++ [f n] := by rw [List.range_succ, List.map_append]; rfl
theorem read_ok {t : Temporal} (ht : Tight t) {L : List Launch} (hA : Acc t L) (hF : Fine t L) (hl : L.length ≤ 63) : schedule_read_p t L = some (some (planOf t (srtL L)), none) := by
  unfold schedule_read_p
  rw [Validate_none ht hA hF]
  simp only [Option.bind_some, un2, Option.isSome_none, Bool.false_eq_true, if_false]
  rw [if_neg (by simp; omega)]
  unfold slices_Clone_apiLaunch_p sortLaunch_p
  rw [app_ok (by simp; omega)]
  simp only [Option.bind_some, List.nil_append]
  rw [if_pos (by omega)]
  simp only [Option.bind_some]
  have hS : L.mergeSort (fun x y => !decide (cmpL y x < 0)) = srtL L := rfl
  rw [hS]
  have hAS := hA.perm (srtL_perm L).symm
  have hlen : (srtL L).length ≤ 63 := by rw [(srtL_perm L).length_eq]; exact hl
  generalize srtL L = S at hAS hlen ⊢
  have h : Ok (forS (fun i100 => un2 fun (z100 : (List schedule_happening)) (z101 : (List schedule_happening)) => (idx S (i100 : Int)).bind fun x100 =>
      (app 32 z100 [(⟨(schedule_start_t (i100 : Int)), x100.At, x100.Job, false⟩ : schedule_happening)]).bind fun l101 =>
      (idx t.Jobs x100.Job).bind fun x101 =>
      (app 32 z101 [(⟨(schedule_end_t (i100 : Int)), IntKind.i64.wrap (x100.At + x101.Duration), x100.Job, true⟩ : schedule_happening)]).bind fun l102 =>
      some (l101, l102)) (S.length) 0 ([], [])) (fun r => r = ((List.range S.length).map fun i => hpS t S (i, false), (List.range S.length).map fun i => hpS t S (i, true))) := by
    refine Ok.forS (fun j r => r = ((List.range j).map fun i => hpS t S (i, false), (List.range j).map fun i => hpS t S (i, true))) rfl ?_ fun s hs => hs
    rintro j s hj rfl
    show Ok (un2 _ _) _
    simp only [un2]
    have hok := hAS.ok _ (lau_mem hj)
    have hd := endT_gt hAS.chk hok
    have := hok.a0; have := hok.a1
    unfold endT at hd
    refine Ok.step (by rw [idx_nat]; exact lau_get hj) (Ok.step (app_ok (by simp; omega)) (Ok.step (jb_idx hok) (Ok.step (app_ok (by simp; omega)) ⟨_, rfl, ?_⟩)))
    rw [range_snoc_map, range_snoc_map, start_ok (by omega), end_ok' (by omega), wrap_id (by omega) (by omega)]
    rfl
  obtain ⟨r, h1, rfl⟩ := h
  rw [h1]
  rfl
/-! ### the bounds -/
def ordB (t : Temporal) (S : List Launch) (x y : Nat × Bool) : List Bound :=
  if intX t S x y then (if tmH t S x < tmH t S y then [⟨ptH y, ptH x, -1⟩] else [⟨ptH x, ptH y, -1⟩]) else []
def ordP (t : Temporal) (S : List Launch) (i k : Nat) : List Bound := [((i, false), (k, false)), ((i, false), (k, true)), ((i, true), (k, false)), ((i, true), (k, true))].flatMap fun p => ordB t S p.1 p.2
def ordL (t : Temporal) (S : List Launch) : List Bound := (List.range S.length).flatMap fun i => (List.range' (i + 1) (S.length - (i + 1))).flatMap fun k => ordP t S i k
def durL (t : Temporal) (S : List Launch) : List Bound := (List.range S.length).flatMap fun i : Nat => [⟨2 * (i : Int) + 1, 0, 0⟩, ⟨2 * (i : Int) + 2, 2 * (i : Int) + 1, -(jb t (lau S i)).Duration⟩, ⟨2 * (i : Int) + 1, 2 * (i : Int) + 2, (jb t (lau S i)).Duration⟩]
def ovrB (t : Temporal) (S : List Launch) (i : Nat) (x : Nat × Bool) : List Bound :=
  if meetB (wrX t S x) (jb t (lau S i)).Over then (if tmH t S x ≤ (lau S i).At then [⟨2 * (i : Int) + 1, ptH x, 0⟩] else if endT t (lau S i) ≤ tmH t S x then [⟨ptH x, 2 * (i : Int) + 2, 0⟩] else []) else []
def ovrL (t : Temporal) (S : List Launch) : List Bound := (List.range S.length).flatMap fun i => (List.range S.length).flatMap fun k => if k = i then [] else ovrB t S i (k, false) ++ ovrB t S i (k, true)
def nextJ (S : List Launch) (i : Nat) : Option Nat := (List.range' (i + 1) (S.length - (i + 1))).find? fun k => decide ((lau S k).Job = (lau S i).Job)
def repL (S : List Launch) : List Bound := (List.range S.length).flatMap fun i => match nextJ S i with | some k => [⟨2 * (k : Int) + 1, 2 * (i : Int) + 2, -1⟩] | none => []
def BD (t : Temporal) (S : List Launch) : List Bound := durL t S ++ ordL t S ++ ovrL t S ++ repL S
theorem after_t (q p g : Int) (h0 : 0 ≤ g) (h1 : g ≤ 1000000) : schedule_after_t q p g = ⟨q, p, -g⟩ := by
  unfold schedule_after_t; rw [wrap_id (by omega) (by omega)]; congr 1; omega
theorem ordB_len (t : Temporal) (S : List Launch) (x y : Nat × Bool) : (ordB t S x y).length ≤ 1 := by
  unfold ordB; split
  · split <;> simp
  · simp
theorem ordP_len (t : Temporal) (S : List Launch) (i k : Nat) : (ordP t S i k).length ≤ 4 := by
  have := flat_le (fun p : (Nat × Bool) × (Nat × Bool) => ordB t S p.1 p.2) 1 [((i, false), (k, false)), ((i, false), (k, true)), ((i, true), (k, false)), ((i, true), (k, true))] fun p _ => ordB_len _ _ _ _
  simpa [ordP] using this
theorem durations_ok {t : Temporal} {S : List Launch} (hA : Acc t S) (hl : S.length ≤ 63) {p : schedule_plan} (ht : p.t = t) (hp : p.launches = S) : schedule_plan_durations_p p = some (durL t S) := by
  unfold schedule_plan_durations_p
  rw [ht, hp]
  have h : Ok (forS (fun i100 => fun (out100 : (List Bound)) => (idx S (i100 : Int)).bind fun x100 => (idx t.Jobs x100.Job).bind fun x101 =>
      (app 24 out100 [(schedule_after_t (schedule_start_t (i100 : Int)) 0 0), (schedule_after_t (schedule_end_t (i100 : Int)) (schedule_start_t (i100 : Int)) x101.Duration), (⟨(schedule_start_t (i100 : Int)), (schedule_end_t (i100 : Int)), x101.Duration⟩ : Bound)]).bind fun l100 =>
      some l100) (S.length) 0 []) (fun r => r = durL t S) := by
    refine Ok.forS (fun j r => r = (List.range j).flatMap fun i => [⟨2 * (i : Int) + 1, 0, 0⟩, ⟨2 * (i : Int) + 2, 2 * (i : Int) + 1, -(jb t (lau S i)).Duration⟩, ⟨2 * (i : Int) + 1, 2 * (i : Int) + 2, (jb t (lau S i)).Duration⟩]) rfl ?_ fun s hs => hs
    rintro j s hj rfl
    have hok := hA.ok _ (lau_mem hj)
    have hd := (hA.chk.job _ (jb_mem hok)).dur
    refine Ok.step (by rw [idx_nat]; exact lau_get hj) (Ok.step (jb_idx hok) (Ok.step (app_ok ?_) ⟨_, rfl, ?_⟩))
    · have := flat_le (fun i : Nat => [(⟨2 * (i : Int) + 1, 0, 0⟩ : Bound), ⟨2 * (i : Int) + 2, 2 * (i : Int) + 1, -(jb t (lau S i)).Duration⟩, ⟨2 * (i : Int) + 1, 2 * (i : Int) + 2, (jb t (lau S i)).Duration⟩]) 3 (List.range j) (fun _ _ => by simp)
      rw [List.length_range] at this
      simp only [List.length_cons, List.length_nil]
      omega
    · rw [List.range_succ, List.flatMap_append, start_ok (by omega), end_ok' (by omega), after_t _ _ _ (by omega) (by omega), after_t _ _ _ (by omega) (by omega)]
      simp
  obtain ⟨r, h1, rfl⟩ := h
  rw [h1]; rfl
end Go.Pw
/-
  The bounds of a plan's network: what the code lists.
-/
namespace Go.Pw
section
variable {t : Temporal} {S : List Launch}
theorem Interfere_ok (hA : Acc t S) {x y : Nat × Bool} (hx : x.1 < S.length) (hy : y.1 < S.length) : temporal_Interfere_p t (lau S x.1).Job (lau S y.1).Job x.2 y.2 = some (intX t S x y, none) := by
  unfold temporal_Interfere_p
  rw [hA.check]
  have h1 := hA.ok _ (lau_mem hx)
  have h2 := hA.ok _ (lau_mem hy)
  simp only [Option.bind_some, Option.isSome_none, Bool.false_eq_true, if_false]
  rw [if_neg (by have := h1.j0; have := h1.j1; have := h2.j0; have := h2.j1; simp; omega)]
  rw [interfere_ok (i := jH t S x) (j := jH t S y) (jb_idx h1) (jb_idx h2)]
  rfl
theorem starts_get {i : Nat} (h : i < S.length) : idx (planOf t S).starts (i : Int) = some (hpS t S (i, false)) := by
  rw [idx_nat]; simp [planOf, h]
theorem ends_get {i : Nat} (h : i < S.length) : idx (planOf t S).ends (i : Int) = some (hpS t S (i, true)) := by
  rw [idx_nat]; simp [planOf, h]
def prs (i k : Nat) : List ((Nat × Bool) × (Nat × Bool)) := [((i, false), (k, false)), ((i, false), (k, true)), ((i, true), (k, false)), ((i, true), (k, true))]
theorem pair_step (hA : Acc t S) {x y : Nat × Bool} (hx : x.1 < S.length) (hy : y.1 < S.length) {l : List Bound} (hl : l.length ≤ 100000) :
    ((temporal_Interfere_p (planOf t S).t (hpS t S x).job (hpS t S y).job (hpS t S x).end_ (hpS t S y).end_).bind <| un2 fun (y100 : Bool) (y101 : (Option Int)) =>
      if y101.isSome then (some (Ctl.ret (([] : List Bound), y101)))
      else (if !y100 then (some (Ctl.next l))
      else ((if decide ((hpS t S x).at_ < (hpS t S y).at_) then ((app 24 l [(schedule_after_t (hpS t S y).point (hpS t S x).point 1)]).bind fun l102 => some l102)
      else ((app 24 l [(schedule_after_t (hpS t S x).point (hpS t S y).point 1)]).bind fun l103 => some l103)).bind (fun (l104 : (List Bound)) => some (Ctl.next l104))))) = some (Ctl.next (l ++ ordB t S x y) : Ctl (List Bound) (List Bound × Option Int)) := by
  have h := Interfere_ok hA hx hy
  have h' : temporal_Interfere_p (planOf t S).t (hpS t S x).job (hpS t S y).job (hpS t S x).end_ (hpS t S y).end_ = some (intX t S x y, none) := h
  rw [h', Option.bind_some]
  simp only [un2, Option.isSome_none, Bool.false_eq_true, if_false]
  rw [app_ok (by simp; omega), app_ok (by simp; omega), after_t _ _ _ (by omega) (by omega), after_t _ _ _ (by omega) (by omega)]
  unfold ordB
  cases intX t S x y with
  | false => simp
  | true =>
    simp only [Bool.not_true, Bool.false_eq_true, if_false, if_true]
    by_cases c : tmH t S x < tmH t S y
    · have c' : (hpS t S x).at_ < (hpS t S y).at_ := c
      simp [c, c', hpS]
    · have c' : ¬ (hpS t S x).at_ < (hpS t S y).at_ := c
      simp [c, c', hpS]
theorem orders_ok (hA : Acc t S) (hl : S.length ≤ 63) : schedule_plan_orders_p (planOf t S) = some (ordL t S, none) := by
  unfold schedule_plan_orders_p
  refine Ok.eq ?_
  show Ok (ctl (forC _ S.length 0 []) _ _) _
  refine Ok.ctl (fun j out => out.length ≤ 252 * j ∧ out = (List.range j).flatMap fun i => (List.range' (i + 1) (S.length - (i + 1))).flatMap fun k => ordP t S i k) (fun _ => False) ⟨by simp, rfl⟩ ?_ (fun r hr => hr.elim) fun s hs => ⟨_, rfl, by rw [hs.2]; rfl⟩
  rintro i out hi ⟨hlen, rfl⟩
  rw [show ((i : Int) + 1) = ((i + 1 : Nat) : Int) by omega, wrap_id (by omega) (by omega)]
  refine Ok.whileF (n := S.length) (fun j l => l.length ≤ 252 * i + 4 * (j - (i + 1)) ∧ l = ((List.range i).flatMap fun i => (List.range' (i + 1) (S.length - (i + 1))).flatMap fun k => ordP t S i k) ++ (List.range' (i + 1) (j - (i + 1))).flatMap fun k => ordP t S i k)
    (fun l => l.length ≤ 252 * (i + 1) ∧ l = (List.range (i + 1)).flatMap fun i => (List.range' (i + 1) (S.length - (i + 1))).flatMap fun k => ordP t S i k) (fun _ => False) (by omega) ⟨by omega, by simp⟩ ?_ ?_ (fun r hr => hr.elim) (fun q hq => ⟨_, rfl, hq⟩)
  · rintro k l hk1 hk ⟨h1, h2⟩
    show Ok (if decide ((k : Int) < (S.length : Int)) = true then _ else _) _
    rw [if_pos (by simpa using hk), starts_get hi, Option.bind_some, starts_get hk, Option.bind_some, ends_get hk, Option.bind_some, ends_get hi, Option.bind_some]
    have e : ([(⟨hpS t S (i, false), hpS t S (k, false)⟩ : Arr2_schedulehappening), ⟨hpS t S (i, false), hpS t S (k, true)⟩, ⟨hpS t S (i, true), hpS t S (k, false)⟩, ⟨hpS t S (i, true), hpS t S (k, true)⟩]) = (prs i k).map fun p => ⟨hpS t S p.1, hpS t S p.2⟩ := rfl
    rw [e, List.length_map]
    refine Ok.ctl (fun q m => m.length ≤ l.length + q ∧ m = l ++ ((prs i k).take q).flatMap fun p => ordB t S p.1 p.2) (fun _ => False) ⟨Nat.le_refl _, by simp⟩ ?_ (fun r hr => hr.elim) fun m hm => ⟨_, rfl, ?_, ?_, ?_⟩
    · rintro q m hq ⟨g1, g2⟩
      have hq4 : q < 4 := hq
      have hm : ∀ p ∈ prs i k, p.1.1 < S.length ∧ p.2.1 < S.length := fun p hp => by
        simp only [prs, List.mem_cons, List.not_mem_nil, or_false] at hp
        rcases hp with rfl | rfl | rfl | rfl <;> exact ⟨hi, hk⟩
      obtain ⟨m1, m2⟩ := hm _ (List.getElem_mem hq)
      rw [idx_nat, List.getElem?_map, List.getElem?_eq_getElem hq, Option.map_some, Option.bind_some]
      rw [pair_step hA m1 m2 (by omega)]
      refine ⟨_, rfl, ?_, ?_⟩
      · rw [List.length_append]
        have := ordB_len t S (prs i k)[q].1 (prs i k)[q].2
        omega
      · rw [take_snoc hq, List.flatMap_append, g2]; simp
    · show IntKind.i64.wrap ((k : Int) + 1) = ((k + 1 : Nat) : Int)
      rw [wrap_id (by omega) (by omega)]; rfl
    · have h3 : m.length ≤ l.length + 4 := hm.1
      show m.length ≤ _
      omega
    · have h3 : m = l ++ (prs i k).flatMap fun p => ordB t S p.1 p.2 := hm.2
      show m = _
      rw [h3, h2, show k + 1 - (i + 1) = (k - (i + 1)) + 1 by omega, List.range'_concat, List.flatMap_append, List.append_assoc]
      congr 2
      rw [show i + 1 + 1 * (k - (i + 1)) = k by omega]
      simp [ordP, prs]
  · rintro l ⟨h1, h2⟩
    show Ok (if decide ((S.length : Int) < (S.length : Int)) = true then _ else _) _
    rw [if_neg (by simp)]
    refine ⟨_, rfl, _, rfl, by simp only; omega, ?_⟩
    show l = _
    rw [h2, List.range_succ, List.flatMap_append]
    simp
theorem writes_x (hA : Acc t S) {x : Nat × Bool} (hx : x.1 < S.length) (over : List Fact) : schedule_plan_writes_p (planOf t S) (hpS t S x) over = some (meetB (wrX t S x) over) := by
  unfold schedule_plan_writes_p
  have hj : idx (planOf t S).t.Jobs (hpS t S x).job = some (jH t S x) := jb_idx (hA.ok _ (lau_mem hx))
  rw [hj, Option.bind_some]
  have hc : ∀ (b : List Fact) (f : Fact), slices_ContainsFunc_apiFact_writes_c1_c1_p b f = some (b.any fun y => decide (f.Var = y.Var)) := fun b f => by
    unfold slices_ContainsFunc_apiFact_writes_c1_c1_p slices_IndexFunc_apiFact_writes_c1_c1_p
    refine any_list (p := fun y : Fact => decide (f.Var = y.Var)) fun j y hy => ?_
    rw [idx_nat, hy]
    simp only [Option.bind_some, schedule_plan_writes_c1_c1_t]
    split <;> rfl
  have h : ∀ a : List Fact, slices_ContainsFunc_apiFact_writes_c1_p a over = some (meetB a over) := fun a => by
    unfold slices_ContainsFunc_apiFact_writes_c1_p slices_IndexFunc_apiFact_writes_c1_p
    refine any_list (p := fun x : Fact => over.any fun y => decide (x.Var = y.Var)) fun j x hx => ?_
    rw [idx_nat, hx]
    simp only [Option.bind_some, schedule_plan_writes_c1_p, hc]
    split <;> rfl
  have e : (if (hpS t S x).end_ = true then some (jH t S x).AtEnd else some (jH t S x).AtStart) = some (wrX t S x) := by
    show (if x.2 = true then _ else _) = some (wrH _ x.2)
    unfold wrH
    split <;> rfl
  rw [e, Option.bind_some, h]
  rfl
theorem ovrB_len (t : Temporal) (S : List Launch) (i : Nat) (x : Nat × Bool) : (ovrB t S i x).length ≤ 1 := by
  unfold ovrB; split
  · split
    · simp
    · split <;> simp
  · simp
theorem ov_step (hA : Acc t S) (hl : S.length ≤ 63) {i : Nat} {x : Nat × Bool} (hi : i < S.length) (hx : x.1 < S.length) {l : List Bound} (hll : l.length ≤ 100000) :
    ((idx (planOf t S).t.Jobs (lau S i).Job).bind fun x104 => (schedule_plan_writes_p (planOf t S) (hpS t S x) x104.Over).bind <| fun (y100 : Bool) =>
      (if !y100 then (some l)
      else ((idx (planOf t S).starts (i : Int)).bind fun x105 =>
      (if decide ((hpS t S x).at_ ≤ x105.at_) then ((app 24 l [(schedule_after_t (schedule_start_t (i : Int)) (hpS t S x).point 0)]).bind fun l102 => some l102)
      else ((idx (planOf t S).ends (i : Int)).bind fun x106 =>
      (if decide (x106.at_ ≤ (hpS t S x).at_) then ((app 24 l [(schedule_after_t (hpS t S x).point (schedule_end_t (i : Int)) 0)]).bind fun l103 => some l103)
      else (some l)).bind (fun (l104 : (List Bound)) => some l104))).bind (fun (l105 : (List Bound)) => some l105))).bind (fun (l106 : (List Bound)) => some l106)) = some (l ++ ovrB t S i x) := by
  have hok := hA.ok _ (lau_mem hi)
  have hj : idx (planOf t S).t.Jobs (lau S i).Job = some (jb t (lau S i)) := jb_idx hok
  rw [hj, Option.bind_some, writes_x hA hx, Option.bind_some, starts_get hi, ends_get hi, app_ok (by simp; omega), app_ok (by simp; omega), start_ok (by omega), end_ok' (by omega), after_t _ _ _ (by omega) (by omega), after_t _ _ _ (by omega) (by omega)]
  unfold ovrB
  cases meetB (wrX t S x) (jb t (lau S i)).Over with
  | false => simp
  | true =>
    by_cases c : tmH t S x ≤ (lau S i).At
    · have c' : (hpS t S x).at_ ≤ (hpS t S (i, false)).at_ := c
      simp only [Bool.not_true, Bool.false_eq_true, if_false, if_true, Option.bind_some, c, c', decide_true]
      rfl
    · have c' : ¬ (hpS t S x).at_ ≤ (hpS t S (i, false)).at_ := c
      by_cases d : endT t (lau S i) ≤ tmH t S x
      · have d' : (hpS t S (i, true)).at_ ≤ (hpS t S x).at_ := d
        simp only [Bool.not_true, Bool.false_eq_true, if_false, if_true, Option.bind_some, c, c', d, d', decide_true, decide_false]
        rfl
      · have d' : ¬ (hpS t S (i, true)).at_ ≤ (hpS t S x).at_ := d
        simp only [Bool.not_true, Bool.false_eq_true, if_false, if_true, Option.bind_some, c, c', d, d', decide_true, decide_false]
        simp
theorem overs_ok (hA : Acc t S) (hl : S.length ≤ 63) : schedule_plan_overs_p (planOf t S) = some (ovrL t S) := by
  unfold schedule_plan_overs_p
  simp only [show (planOf t S).launches = S from rfl]
  refine Ok.eq (Ok.bind ?_)
  show Ok (forS _ S.length 0 []) _
  refine Ok.forS (fun j out => out.length ≤ 126 * j ∧ out = (List.range j).flatMap fun i => (List.range S.length).flatMap fun k => if k = i then [] else ovrB t S i (k, false) ++ ovrB t S i (k, true)) ⟨by simp, rfl⟩ ?_ fun s hs => ⟨_, rfl, hs.2⟩
  rintro i out hi ⟨hlen, rfl⟩
  refine Ok.step (by rw [idx_nat]; exact lau_get hi) (Ok.bind ?_)
  show Ok (forS _ S.length 0 _) _
  generalize hout : ((List.range i).flatMap fun i => (List.range S.length).flatMap fun k => if k = i then [] else ovrB t S i (k, false) ++ ovrB t S i (k, true)) = out at hlen ⊢
  refine Ok.forS (fun j l => l.length ≤ out.length + 2 * j ∧ l = out ++ (List.range j).flatMap fun k => if k = i then [] else ovrB t S i (k, false) ++ ovrB t S i (k, true)) ⟨by omega, by simp⟩ ?_ fun l hl' => ⟨_, rfl, by have := hl'.1; omega, ?_⟩
  · rintro k l hk ⟨g1, g2⟩
    by_cases c : k = i
    · subst c
      rw [if_pos (by simp)]
      refine ⟨_, rfl, by omega, ?_⟩
      rw [List.range_succ, List.flatMap_append, g2]; simp
    · rw [if_neg (by simp; omega), starts_get hk, Option.bind_some, ends_get hk, Option.bind_some]
      refine Ok.bind ?_
      have e : ([hpS t S (k, false), hpS t S (k, true)]) = [(k, false), (k, true)].map (hpS t S) := rfl
      rw [e, List.length_map]
      refine Ok.forS (fun q m => m.length ≤ l.length + q ∧ m = l ++ ([(k, false), (k, true)].take q).flatMap fun x => ovrB t S i x) ⟨by omega, by simp⟩ ?_ fun m hm => ⟨_, rfl, ?_, ?_⟩
      · rintro q m hq ⟨h1, h2⟩
        have hq2 : q < 2 := hq
        have hx : ∀ x ∈ [(k, false), (k, true)], x.1 < S.length := fun x hx => by
          simp only [List.mem_cons, List.not_mem_nil, or_false] at hx
          rcases hx with rfl | rfl <;> exact hk
        have hxq := hx _ (List.getElem_mem hq)
        rw [idx_nat, List.getElem?_map, List.getElem?_eq_getElem hq, Option.map_some, Option.bind_some]
        rw [ov_step hA hl hi hxq (by omega)]
        refine ⟨_, rfl, ?_, ?_⟩
        · rw [List.length_append]
          have := ovrB_len t S i [(k, false), (k, true)][q]
          omega
        · rw [take_snoc hq, List.flatMap_append, h2]; simp
      · have : m.length ≤ l.length + 2 := hm.1
        omega
      · have h3 : m = l ++ [(k, false), (k, true)].flatMap fun x => ovrB t S i x := hm.2
        rw [h3, List.range_succ, List.flatMap_append, g2]
        simp [c]
  · rw [hl'.2, List.range_succ, List.flatMap_append, hout]; simp
theorem nextJ_some {i j : Nat} (h1 : i < j) (h2 : j < S.length) (hj : (lau S j).Job = (lau S i).Job) (hm : ∀ m, i < m → m < j → (lau S m).Job ≠ (lau S i).Job) : nextJ S i = some j := by
  unfold nextJ
  rw [List.find?_range'_eq_some]
  refine ⟨by simpa using hj, by rw [List.mem_range'_1]; omega, fun m a b => by simpa using hm m (by omega) b⟩
theorem nextJ_none {i : Nat} (hm : ∀ m, i < m → m < S.length → (lau S m).Job ≠ (lau S i).Job) : nextJ S i = none := by
  unfold nextJ
  rw [List.find?_eq_none]
  intro m hmm
  rw [List.mem_range'_1] at hmm
  simpa using hm m (by omega) (by omega)
theorem nextJ_is {i j : Nat} (h : nextJ S i = some j) : i < j ∧ j < S.length ∧ (lau S j).Job = (lau S i).Job ∧ ∀ m, i < m → m < j → (lau S m).Job ≠ (lau S i).Job := by
  unfold nextJ at h
  rw [List.find?_range'_eq_some] at h
  obtain ⟨a, b, c⟩ := h
  rw [List.mem_range'_1] at b
  exact ⟨by omega, by omega, by simpa using a, fun m h1 h2 => by simpa using c m (by omega) h2⟩
def repB (S : List Launch) (i : Nat) : List Bound := match nextJ S i with | some k => [⟨2 * (k : Int) + 1, 2 * (i : Int) + 2, -1⟩] | none => []
theorem repB_len (S : List Launch) (i : Nat) : (repB S i).length ≤ 1 := by unfold repB; split <;> simp
theorem repeats_ok (hl : S.length ≤ 63) : schedule_plan_repeats_p (planOf t S) = some (repL S) := by
  unfold schedule_plan_repeats_p
  simp only [show (planOf t S).launches = S from rfl]
  refine Ok.eq (Ok.bind ?_)
  show Ok (forS _ S.length 0 []) _
  refine Ok.forS (fun j out => out.length ≤ j ∧ out = (List.range j).flatMap (repB S)) ⟨by simp, rfl⟩ ?_ fun s hs => ⟨_, rfl, hs.2⟩
  rintro i out hi ⟨hlen, rfl⟩
  refine Ok.step (by rw [idx_nat]; exact lau_get hi) ?_
  generalize hout : (List.range i).flatMap (repB S) = out at hlen ⊢
  rw [show ((i : Int) + 1) = ((i + 1 : Nat) : Int) by omega, wrap_id (by omega) (by omega)]
  refine Ok.whileF (n := S.length) (fun j l => l = out ∧ ∀ m, i < m → m < j → (lau S m).Job ≠ (lau S i).Job) (fun l => l = out ++ repB S i) (fun _ => False) (by omega) ⟨rfl, fun m h1 h2 => by omega⟩ ?_ ?_ (fun r hr => hr.elim) (fun q hq => ⟨_, rfl, ?_, ?_⟩)
  · rintro k l hk1 hk ⟨rfl, h2⟩
    show Ok (if decide ((k : Int) < (S.length : Int)) = true then _ else _) _
    rw [if_pos (by simpa using hk)]
    refine Ok.step (by rw [idx_nat]; exact lau_get hk) ?_
    by_cases c : (lau S k).Job = (lau S i).Job
    · rw [if_pos (by simpa using c), app_ok (by simp; omega), start_ok (by omega), end_ok' (by omega), after_t _ _ _ (by omega) (by omega)]
      refine ⟨_, rfl, ?_⟩
      show _ ++ _ = _ ++ repB S i
      unfold repB
      rw [nextJ_some (by omega) hk c h2]
    · rw [if_neg (by simpa using c)]
      refine ⟨_, rfl, ?_, rfl, fun m h3 h4 => ?_⟩
      · show IntKind.i64.wrap ((k : Int) + 1) = ((k + 1 : Nat) : Int)
        rw [wrap_id (by omega) (by omega)]; rfl
      · by_cases e : m = k
        · subst e; exact c
        · exact h2 m h3 (by omega)
  · rintro l ⟨rfl, h2⟩
    show Ok (if decide ((S.length : Int) < (S.length : Int)) = true then _ else _) _
    rw [if_neg (by simp)]
    refine ⟨_, rfl, _, rfl, ?_⟩
    show _ = _ ++ repB S i
    unfold repB
    rw [nextJ_none h2]; simp
  · have h3 : q.2 = out ++ repB S i := hq
    show q.2.length ≤ _
    rw [h3, List.length_append]
    have := repB_len S i
    omega
  · have h3 : q.2 = out ++ repB S i := hq
    show q.2 = _
    rw [h3, List.range_succ, List.flatMap_append, hout]; simp
end
end Go.Pw
