/-
  P58.1: launches in another order: as many problems of each kind, the same states (plain).
-/
import Derived.Test.YthbgcahoknmmmaaRaSG
set_option linter.unusedVariables false
set_option linter.unusedSimpArgs false
namespace Go.Pw
/-! ### counting pairs -/
def pcR {α : Type} (R : α → α → Bool) : List α → Nat
  | [] => 0
  | x :: xs => xs.countP (R x) + pcR R xs
theorem pcR_perm {α : Type} {R : α → α → Bool} (hR : ∀ x y, R x y = R y x) {l l' : List α} (h : l.Perm l') : pcR R l = pcR R l' := by
  induction h with
  | nil => rfl
  | cons x h ih => simp only [pcR]; rw [ih, h.countP_eq]
  | swap x y l =>
    simp only [pcR, List.countP_cons]
    rw [hR y x]
    omega
  | trans _ _ ih1 ih2 => exact ih1.trans ih2
theorem pcR_map {α β : Type} {R : β → β → Bool} {g : α → β} : ∀ l : List α, pcR R (l.map g) = pcR (fun x y => R (g x) (g y)) l
  | [] => rfl
  | x :: l => by
    simp only [List.map_cons, pcR]
    rw [pcR_map l, List.countP_map]; rfl
theorem pcR_snoc {α : Type} {R : α → α → Bool} (y : α) : ∀ l : List α, pcR R (l ++ [y]) = pcR R l + l.countP (fun x => R x y)
  | [] => by simp [pcR]
  | x :: l => by
    simp only [List.cons_append, pcR, List.countP_append, List.countP_cons, List.countP_nil]
    rw [pcR_snoc y l]
    omega
theorem flatM_one {α : Type} {β : Type} {f : α → List β} {p : α → Bool} (h : ∀ x, (f x).length = if p x then 1 else 0) : ∀ l : List α, (l.flatMap f).length = l.countP p
  | [] => rfl
  | x :: l => by
    rw [List.flatMap_cons, List.length_append, flatM_one h l, h, List.countP_cons]; omega
theorem prsI_pc {α β : Type} {f : α → α → List β} {R : α → α → Bool} (h : ∀ x y, (f x y).length = if R x y then 1 else 0) : ∀ l : List α, (prsI f l).length = pcR R l
  | [] => rfl
  | x :: l => by
    have e : prsI f (x :: l) = l.flatMap (f x) ++ prsI f l := by
      unfold prsI
      rw [List.length_cons, List.range_succ_eq_map, List.flatMap_cons, List.flatMap_map]
      congr 1
    rw [e, List.length_append, prsI_pc h l, flatM_one (h x)]; rfl
theorem flatM_len {α β : Type} (f : α → List β) (l : List α) : (l.flatMap f).length = (l.map fun x => (f x).length).sum := by
  induction l with
  | nil => rfl
  | cons x l ih => rw [List.flatMap_cons, List.length_append, ih]; simp
/-! ### by launches, not by numbers -/
theorem range_lau (L : List Launch) : (List.range L.length).map (lau L) = L := by
  apply List.ext_getElem?
  intro i
  rw [List.getElem?_map]
  by_cases h : i < L.length
  · rw [List.getElem?_range h, lau_get h]; rfl
  · rw [List.getElem?_eq_none (by simp; omega), List.getElem?_eq_none (by omega)]; rfl
section
variable {t : Temporal} {L L' : List Launch} {a : Int} {s : List Int} {T : List Int}
def hL (t : Temporal) (L : List Launch) (a : Int) : List (Launch × Bool) := (L.filter fun l => decide (endT t l = a)).map (fun l => (l, true)) ++ (L.filter fun l => decide (l.At = a)).map (fun l => (l, false))
theorem hL_perm (h : L.Perm L') : (hL t L a).Perm (hL t L' a) := ((h.filter _).map _).append ((h.filter _).map _)
theorem evI_hL : (evI t L a).map (fun x => (lau L x.1, x.2)) = hL t L a := by
  have h : ∀ e, (evE t L a e).map (fun x => (lau L x.1, x.2)) = (L.filter fun l => decide ((if e then endT t l else l.At) = a)).map (fun l => (l, e)) := fun e => by
    unfold evE
    rw [List.map_map]
    conv => rhs; rw [← range_lau L, List.filter_map, List.map_map]
    rfl
  unfold evI hL
  rw [List.map_append, h true, h false]
  rfl
theorem sum_perm {α : Type} {l l' : List α} (h : l.Perm l') (f : α → Nat) : (l.map f).sum = (l'.map f).sum := by
  induction h with
  | nil => rfl
  | cons x h ih => simp [ih]
  | swap x y l => simp; omega
  | trans _ _ ih1 ih2 => exact ih1.trans ih2
theorem inL_len_eq : (inL t L a).length = pcR (fun x y : Launch × Bool => decide (0 ≤ meetV (jb t x.1) (jb t y.1) x.2 y.2)) (hL t L a) := by
  unfold inL
  rw [← evI_hL, pcR_map]
  refine prsI_pc (fun x y => ?_) _
  unfold inP jH
  by_cases c : 0 ≤ meetV (jb t (lau L x.1)) (jb t (lau L y.1)) x.2 y.2
  · rw [if_pos c]; simp [c]
  · rw [if_neg c]; simp [c]
theorem preL_len_eq : (preL t L a s).length = ((hL t L a).map fun q => (lackF (rdH (jb t q.1) q.2) s).length).sum := by
  unfold preL
  rw [← evI_hL, List.map_map, flatM_len]
  congr 1
  exact List.map_congr_left fun x _ => by rw [ones_len']; rfl
where
  ones_len' {α β : Type} {l : List α} {f : α → β} : (l.flatMap fun x => [f x]).length = l.length := one_len l f
theorem ovrL_len_eq : (ovrL t L a s).length = (L.map fun l => if l.At ≤ a ∧ a < endT t l then (lackF (jb t l).Over s).length else 0).sum := by
  unfold ovrL
  rw [flatM_len]
  conv => rhs; rw [← range_lau L, List.map_map]
  congr 1
  refine List.map_congr_left fun i _ => ?_
  simp only [Function.comp]
  split
  · rw [one_len]
  · rfl
def ovA (t : Temporal) (a : Int) (x y : Launch) : Bool := decide (x.At = a ∧ x.Job = y.Job ∧ y.At < a ∧ a ≤ endT t y)
def ovS (a : Int) (x y : Launch) : Bool := decide (x.At = a ∧ x.Job = y.Job ∧ y.At = a)
theorem ovS_symm (a : Int) (x y : Launch) : ovS a x y = ovS a y x := by
  unfold ovS
  by_cases h : x.At = a ∧ x.Job = y.Job ∧ y.At = a
  · rw [decide_eq_true h, decide_eq_true ⟨h.2.2, h.2.1.symm, h.1⟩]
  · rw [decide_eq_false h, decide_eq_false fun h' => h ⟨h'.2.2, h'.2.1.symm, h'.1⟩]
theorem countP_add {α : Type} {p q r : α → Bool} (h : ∀ x, (if r x then 1 else 0) = (if p x then 1 else 0) + (if q x then 1 else 0)) : ∀ l : List α, l.countP r = l.countP p + l.countP q
  | [] => rfl
  | x :: l => by
    rw [List.countP_cons, List.countP_cons, List.countP_cons, countP_add h l, h x]; omega
theorem ovL_len_eq : (ovL t L a).length = (L.map fun x => L.countP (ovA t a x)).sum + pcR (ovS a) L := by
  have h1 : (ovL t L a).length = ((List.range L.length).map fun i => (List.range L.length).countP fun k => ovB t L a i k).sum := by
    unfold ovL
    rw [flatM_len]
    congr 1
    refine List.map_congr_left fun i _ => ?_
    exact flatM_one (fun k => by split <;> rfl) _
  have h2 : ∀ i, (List.range L.length).countP (fun k => ovB t L a i k) = L.countP (ovA t a (lau L i)) + (List.range L.length).countP (fun k => decide (k < i) && ovS a (lau L i) (lau L k)) := fun i => by
    have e : L.countP (ovA t a (lau L i)) = (List.range L.length).countP (fun k => ovA t a (lau L i) (lau L k)) := by
      conv => lhs; rw [← range_lau L, List.countP_map]
      rw [range_lau]; rfl
    rw [e]
    refine countP_add (fun k => ?_) _
    unfold ovB ovA ovS
    by_cases c1 : (lau L i).At = a
    · by_cases c2 : (lau L i).Job = (lau L k).Job
      · by_cases c3 : (lau L k).At < a
        · have : ¬ (lau L k).At = a := by omega
          have c4 : k ≠ i := fun e => by subst e; omega
          by_cases c5 : a ≤ endT t (lau L k)
          · simp [c1, c2, c3, c4, c5, this]
          · simp [c1, c2, c3, c4, c5, this]
        · by_cases c4 : (lau L k).At = a
          · by_cases c5 : k < i
            · have : k ≠ i := by omega
              simp [c1, c2, c3, c4, c5, this]
            · simp [c1, c2, c3, c4, c5]
          · simp [c1, c2, c3, c4]
      · simp [c1, c2]
    · simp [c1]
  have h3 : ∀ m, m ≤ L.length → ((List.range m).map fun i => (List.range L.length).countP (fun k => decide (k < i) && ovS a (lau L i) (lau L k))).sum = pcR (ovS a) (L.take m) := by
    intro m
    induction m with
    | zero => intro _; simp [pcR]
    | succ m ih =>
      intro hm
      rw [List.range_succ, List.map_append, List.sum_append, ih (by omega), take_snoc (by omega : m < L.length), pcR_snoc]
      congr 1
      have e0 : L[m] = lau L m := by simp [lau, show m < L.length by omega]
      have e1 : L.take m = (List.range m).map (lau L) := by
        conv => lhs; rw [← range_lau L, ← List.map_take, List.take_range]
        rw [Nat.min_eq_left (by omega)]
      have e2 : List.range L.length = List.range m ++ (List.range (L.length - m)).map (m + ·) := by
        rw [← List.range_add]; congr 1; omega
      simp only [List.map_cons, List.map_nil, List.sum_cons, List.sum_nil, Nat.add_zero]
      rw [e1, e0, List.countP_map]
      conv => lhs; rw [e2, List.countP_append]
      have e3 : ((List.range (L.length - m)).map (m + ·)).countP (fun k => decide (k < m) && ovS a (lau L m) (lau L k)) = 0 := by
        rw [List.countP_eq_zero]
        intro k hk
        obtain ⟨j, _, rfl⟩ := List.mem_map.1 hk
        simp; omega
      rw [e3, Nat.add_zero]
      refine List.countP_congr fun k hk => ?_
      have : k < m := by simpa using hk
      simp [this, ovS_symm a (lau L m) (lau L k)]
  rw [h1]
  have h4 : ∀ l : List Nat, (l.map fun i => (List.range L.length).countP fun k => ovB t L a i k).sum = (l.map fun i => L.countP (ovA t a (lau L i))).sum + (l.map fun i => (List.range L.length).countP (fun k => decide (k < i) && ovS a (lau L i) (lau L k))).sum := by
    intro l
    induction l with
    | nil => rfl
    | cons i l ih => simp only [List.map_cons, List.sum_cons]; rw [ih, h2 i]; omega
  rw [h4, h3 L.length (Nat.le_refl _), List.take_length]
  congr 2
  conv => rhs; rw [← range_lau L, List.map_map]
  rw [range_lau]; rfl
/-! ### another order of the launches -/
theorem ovL_perm (h : L.Perm L') : (ovL t L a).length = (ovL t L' a).length := by
  rw [ovL_len_eq, ovL_len_eq, pcR_perm (ovS_symm a) h, sum_perm h]
  congr 2
  exact List.map_congr_left fun x _ => h.countP_eq _
theorem inL_perm (hA : Acc t L) (h : L.Perm L') : (inL t L a).length = (inL t L' a).length := by
  rw [inL_len_eq, inL_len_eq]
  -- the relation is symmetric where the launches are the task's
  have hs : ∀ x ∈ hL t L a, ∀ y ∈ hL t L a, decide (0 ≤ meetV (jb t x.1) (jb t y.1) x.2 y.2) = intB (jb t x.1) (jb t y.1) x.2 y.2 := fun x hx y hy => by
    have hm : ∀ z ∈ hL t L a, z.1 ∈ L := fun z hz => by
      unfold hL at hz
      rcases List.mem_append.1 hz with hz | hz
      · obtain ⟨l, hl, rfl⟩ := List.mem_map.1 hz; exact (List.mem_filter.1 hl).1
      · obtain ⟨l, hl, rfl⟩ := List.mem_map.1 hz; exact (List.mem_filter.1 hl).1
    have := meetV_int (hA.chk.job _ (jb_mem (hA.ok _ (hm x hx)))) (hA.chk.job _ (jb_mem (hA.ok _ (hm y hy)))) x.2 y.2
    rw [Bool.eq_iff_iff, decide_eq_true_eq]; exact this
  have hc : ∀ l : List (Launch × Bool), (∀ x ∈ l, x ∈ hL t L a) → pcR (fun x y : Launch × Bool => decide (0 ≤ meetV (jb t x.1) (jb t y.1) x.2 y.2)) l = pcR (fun x y : Launch × Bool => intB (jb t x.1) (jb t y.1) x.2 y.2) l := by
    intro l
    induction l with
    | nil => intro _; rfl
    | cons x l ih =>
      intro hl
      simp only [pcR]
      rw [ih fun y hy => hl y (List.mem_cons_of_mem _ hy)]
      congr 1
      exact List.countP_congr fun y hy => by rw [hs x (hl x (by simp)) y (hl y (List.mem_cons_of_mem _ hy))]
  have hp := hL_perm (t := t) (a := a) h
  rw [hc _ fun x hx => hx, hc _ fun x hx => hp.mem_iff.2 hx]
  exact pcR_perm (fun x y => intB_comm _ _ _ _) hp
theorem preL_perm (h : L.Perm L') : (preL t L a s).length = (preL t L' a s).length := by
  rw [preL_len_eq, preL_len_eq, sum_perm (hL_perm h)]
theorem ovrL_perm (h : L.Perm L') : (ovrL t L a s).length = (ovrL t L' a s).length := by
  rw [ovrL_len_eq, ovrL_len_eq, sum_perm h]
def ka (p : simulate_Problem) : Int × Int := (p.Kind, p.At)
theorem ka_rep {k a : Int} {l : List simulate_Problem} (h : ∀ p ∈ l, p.Kind = k ∧ p.At = a) : l.map ka = List.replicate l.length (k, a) := by
  rw [List.eq_replicate_iff]
  refine ⟨by simp, fun q hq => ?_⟩
  obtain ⟨p, hp, rfl⟩ := List.mem_map.1 hq
  obtain ⟨h1, h2⟩ := h p hp
  unfold ka; rw [h1, h2]
theorem probs_ka {s' : List Int} : (probs t L a s s').map ka = List.replicate (ovL t L a).length (18, a) ++ List.replicate (inL t L a).length (17, a) ++ List.replicate (preL t L a s).length (12, a) ++ List.replicate (ovrL t L a s').length (16, a) := by
  unfold probs
  rw [List.map_append, List.map_append, List.map_append, ka_rep ovL_kind, ka_rep inL_kind, ka_rep preL_kind, ka_rep ovrL_kind]
theorem probs_perm (hA : Acc t L) (h : L.Perm L') {s' : List Int} : (probs t L a s s').map ka = (probs t L' a s s').map ka := by
  rw [probs_ka, probs_ka, ovL_perm h, inL_perm hA h, preL_perm h, ovrL_perm h]
theorem Acc.perm' (hA : Acc t L) (h : L.Perm L') : Acc t L' := ⟨hA.check, hA.chk, by rw [← h.length_eq]; exact hA.len, fun l hl => hA.ok l (h.mem_iff.2 hl)⟩
theorem tick_mem {a : Int} : (∃ x : Nat × Bool, x.1 < L.length ∧ tmH t L x = a) ↔ ∃ l ∈ L, l.At = a ∨ endT t l = a := by
  constructor
  · rintro ⟨⟨i, b⟩, hi, e⟩
    refine ⟨lau L i, lau_mem hi, ?_⟩
    cases b with
    | true => exact .inr e
    | false => exact .inl e
  · rintro ⟨l, hl, e⟩
    obtain ⟨i, hi, rfl⟩ := List.mem_iff_getElem.1 hl
    have el : lau L i = L[i] := by simp [lau, hi]
    rcases e with e | e
    · exact ⟨(i, false), hi, by simp [tmH, el, e]⟩
    · exact ⟨(i, true), hi, by simp [tmH, el, e]⟩
theorem Ticks.perm' (hT : Ticks t L T) (h : L.Perm L') : Ticks t L' T := ⟨hT.asc, fun a => by
  rw [hT.mem, tick_mem, tick_mem]
  exact ⟨fun ⟨l, hl, e⟩ => ⟨l, h.mem_iff.1 hl, e⟩, fun ⟨l, hl, e⟩ => ⟨l, h.mem_iff.2 hl, e⟩⟩⟩
theorem mkS_perm' (h : L.Perm L') : mkS t L = mkS t L' := by
  have h1 := mkS_ge (t := t) (L := L)
  have h2 := mkS_ge (t := t) (L := L')
  have h3 := mkS_le (t := t) (L := L) h2.1 fun l hl => h2.2 l (h.mem_iff.1 hl)
  have h4 := mkS_le (t := t) (L := L') h1.1 fun l hl => h1.2 l (h.mem_iff.2 hl)
  omega
/-- What is written, in order, does not depend on the launches' order. -/
theorem wrAll_map (xs : List (Nat × Bool)) (s : List Int) : wrAll t L xs s = (xs.map (wrX t L)).foldl (fun s f => setF f s) s := by
  unfold wrAll; rw [List.foldl_map]
theorem cnJ_map (e : Bool) (j : Nat) : (cnJ t L a e j).map (wrX t L) = List.replicate (L.filter fun l => decide (l.Job = (j : Int) ∧ (if e then endT t l else l.At) = a)).length (wrH (t.Jobs[j]!) e) := by
  unfold cnJ
  rw [List.map_map]
  have h : ((List.range L.length).filter fun i => decide ((lau L i).Job = (j : Int) ∧ tmH t L (i, e) = a)).map (wrX t L ∘ fun i => (i, e)) = (L.filter fun l => decide (l.Job = (j : Int) ∧ (if e then endT t l else l.At) = a)).map (fun l => wrH (jb t l) e) := by
    conv => rhs; rw [← range_lau L, List.filter_map, List.map_map]
    rfl
  rw [h, List.eq_replicate_iff]
  refine ⟨by simp, fun f hf => ?_⟩
  obtain ⟨l, hl, rfl⟩ := List.mem_map.1 hf
  have := (of_decide_eq_true (List.mem_filter.1 hl).2).1
  unfold jb
  rw [this]; rfl
theorem cn_map_perm (h : L.Perm L') : (cn t L a).map (wrX t L) = (cn t L' a).map (wrX t L') := by
  unfold cn cnE
  rw [List.map_append, List.map_append, List.map_flatMap, List.map_flatMap, List.map_flatMap, List.map_flatMap]
  simp only [cnJ_map, (h.filter _).length_eq]
theorem aftX_perm (h : L.Perm L') (s : List Int) : aftX t L a s = aftX t L' a s := by
  unfold aftX
  rw [wrAll_map, wrAll_map, cn_map_perm h]
theorem runF_perm (hA : Acc t L) (h : L.Perm L') (T : List Int) : (runF t L T).1 = (runF t L' T).1 ∧ (runF t L T).2.1 = (runF t L' T).2.1 ∧ (runF t L T).2.2.map ka = (runF t L' T).2.2.map ka := by
  have key : ∀ n, n ≤ T.length → (runF t L (T.take n)).1 = (runF t L' (T.take n)).1 ∧ (runF t L (T.take n)).2.1 = (runF t L' (T.take n)).2.1 ∧ (runF t L (T.take n)).2.2.map ka = (runF t L' (T.take n)).2.2.map ka := by
    intro n
    induction n with
    | zero => intro _; exact ⟨rfl, rfl, rfl⟩
    | succ n ih =>
      intro hn
      obtain ⟨i1, i2, i3⟩ := ih (by omega)
      rw [take_snoc (by omega : n < T.length), runF_snoc, runF_snoc]
      simp only [runS]
      rw [i1, i2, aftX_perm h, List.map_append, List.map_append, i3, probs_perm hA h]
      exact ⟨rfl, rfl, rfl⟩
  have := key T.length (Nat.le_refl _)
  rwa [List.take_length] at this
end
end Go.Pw
/-
  P58.1: SimulateOrder (plain).
-/
namespace Go.Pw
def okL (t : Temporal) (l : Launch) : Bool := decide (0 ≤ l.Job ∧ l.Job < t.Jobs.length ∧ 0 ≤ l.At ∧ l.At ≤ 1048576)
theorem accept_eq {t : Temporal} {L : List Launch} {c : Option Int} (hc : temporal_Check_p t = some c) (hl : L.length ≤ 4096) : temporal_accept_p t L = some (if c.isSome then c else if L.all (okL t) then none else some 1) := by
  unfold temporal_accept_p
  rw [hc, Option.bind_some]
  cases c with
  | some z => rfl
  | none =>
    simp only [Option.isSome_none, Bool.false_eq_true, if_false]
    rw [if_neg (by simp; omega), ctl_list (p := okL t) (r := some 1)]
    · split <;> rfl
    · intro j x hx
      rw [idx_nat, hx, Option.bind_some]
      unfold okL
      by_cases h : 0 ≤ x.Job ∧ x.Job < t.Jobs.length ∧ 0 ≤ x.At ∧ x.At ≤ 1048576
      · rw [if_neg (by simp; omega), if_pos (decide_eq_true h)]
      · rw [if_pos (by simp; omega), if_neg (by simpa using h)]
theorem back_ok (L : List Launch) (hn : L.length ≤ 1000) : forS (fun i100 => fun (back100 : (List Launch)) => (idx L (i100 : Int)).bind fun x100 => (app 16 [x100] back100).bind fun l101 => some l101) (L.length) 0 [] = some L.reverse := by
  refine Ok.eq (Ok.forL (fun l r => r = l.reverse) rfl ?_ fun r h => h)
  rintro j l x r hx hl rfl
  refine Ok.step (by rw [idx_nat]; exact hx) (Ok.step (app_ok ?_) ⟨_, rfl, by simp⟩)
  have : l.length ≤ L.length := by rw [hl, List.length_take]; omega
  simp; omega
/-- The order of problems. -/
def rkP (m : Int) (p : simulate_Problem) : Int := if p.Kind = 13 then 5 * m + 5 else if p.Kind = 18 then 5 * p.At else if p.Kind = 17 then 5 * p.At + 1 else if p.Kind = 12 then 5 * p.At + 2 else 5 * p.At + 3
section
variable {t : Temporal} {L : List Launch} {a : Int} {s s' : List Int} {T : List Int}
theorem rk_seg {m r : Int} {l : List simulate_Problem} (h : ∀ p ∈ l, rkP m p = r) : l.Pairwise fun p q => rkP m p ≤ rkP m q := by
  refine List.pairwise_of_forall_mem_list fun p hp q hq => ?_
  rw [h p hp, h q hq]; exact Int.le_refl _
theorem rk_ov {m : Int} : ∀ p ∈ ovL t L a, rkP m p = 5 * a := fun p hp => by
  obtain ⟨h1, h2⟩ := ovL_kind p hp
  unfold rkP; rw [h1, h2]; simp
theorem rk_in {m : Int} : ∀ p ∈ inL t L a, rkP m p = 5 * a + 1 := fun p hp => by
  obtain ⟨h1, h2⟩ := inL_kind p hp
  unfold rkP; rw [h1, h2]; simp
theorem rk_pre {m : Int} : ∀ p ∈ preL t L a s, rkP m p = 5 * a + 2 := fun p hp => by
  obtain ⟨h1, h2⟩ := preL_kind p hp
  unfold rkP; rw [h1, h2]; simp
theorem rk_ovr {m : Int} : ∀ p ∈ ovrL t L a s', rkP m p = 5 * a + 3 := fun p hp => by
  obtain ⟨h1, h2⟩ := ovrL_kind p hp
  unfold rkP; rw [h1, h2]; simp
theorem probs_rk {m : Int} : (probs t L a s s').Pairwise (fun p q => rkP m p ≤ rkP m q) ∧ ∀ p ∈ probs t L a s s', 5 * a ≤ rkP m p ∧ rkP m p ≤ 5 * a + 3 := by
  have o := rk_ov (t := t) (L := L) (a := a) (m := m)
  have i := rk_in (t := t) (L := L) (a := a) (m := m)
  have p := rk_pre (t := t) (L := L) (a := a) (s := s) (m := m)
  have v := rk_ovr (t := t) (L := L) (a := a) (s' := s') (m := m)
  unfold probs
  refine ⟨List.pairwise_append.2 ⟨List.pairwise_append.2 ⟨List.pairwise_append.2 ⟨rk_seg o, rk_seg i, fun x hx y hy => ?_⟩, rk_seg p, fun x hx y hy => ?_⟩, rk_seg v, fun x hx y hy => ?_⟩, fun x hx => ?_⟩
  · rw [o x hx, i y hy]; omega
  · rcases List.mem_append.1 hx with hx | hx
    · rw [o x hx, p y hy]; omega
    · rw [i x hx, p y hy]; omega
  · rcases List.mem_append.1 hx with hx | hx
    · rcases List.mem_append.1 hx with hx | hx
      · rw [o x hx, v y hy]; omega
      · rw [i x hx, v y hy]; omega
    · rw [p x hx, v y hy]; omega
  · rcases List.mem_append.1 hx with hx | hx
    · rcases List.mem_append.1 hx with hx | hx
      · rcases List.mem_append.1 hx with hx | hx
        · rw [o x hx]; omega
        · rw [i x hx]; omega
      · rw [p x hx]; omega
    · rw [v x hx]; omega
theorem runF_rk (hT : Ticks t L T) {m : Int} : ∀ n, n ≤ T.length → (runF t L (T.take n)).2.2.Pairwise (fun p q => rkP m p ≤ rkP m q) ∧ ∀ p ∈ (runF t L (T.take n)).2.2, ∃ j, ∃ hj : j < T.length, j < n ∧ 5 * T[j] ≤ rkP m p ∧ rkP m p ≤ 5 * T[j] + 3 ∧ (p.At = T[j] ∧ (p.Kind = 18 ∨ p.Kind = 17 ∨ p.Kind = 12 ∨ p.Kind = 16)) := by
  intro n
  induction n with
  | zero => intro _; exact ⟨List.Pairwise.nil, fun p hp => by simp [runF] at hp⟩
  | succ n ih =>
    intro hn
    obtain ⟨i1, i2⟩ := ih (by omega)
    have e : (runF t L (T.take (n + 1))).2.2 = (runF t L (T.take n)).2.2 ++ probs t L T[n] (runF t L (T.take n)).2.1 (aftX t L T[n] (runF t L (T.take n)).2.1) := by rw [take_snoc (by omega : n < T.length), runF_snoc]; rfl
    obtain ⟨k1, k2⟩ := probs_rk (t := t) (L := L) (a := T[n]) (s := (runF t L (T.take n)).2.1) (s' := aftX t L T[n] (runF t L (T.take n)).2.1) (m := m)
    rw [e]
    refine ⟨List.pairwise_append.2 ⟨i1, k1, fun x hx y hy => ?_⟩, fun p hp => ?_⟩
    · obtain ⟨j, hj, hjn, _, h2, _⟩ := i2 x hx
      have := k2 y hy
      have := List.pairwise_iff_getElem.1 hT.asc j n hj (by omega) hjn
      omega
    · rcases List.mem_append.1 hp with hp | hp
      · obtain ⟨j, hj, hjn, h⟩ := i2 p hp
        exact ⟨j, hj, by omega, h⟩
      · refine ⟨n, by omega, by omega, (k2 p hp).1, (k2 p hp).2, ?_⟩
        unfold probs at hp
        rcases List.mem_append.1 hp with hp | hp
        · rcases List.mem_append.1 hp with hp | hp
          · rcases List.mem_append.1 hp with hp | hp
            · have := ovL_kind p hp; exact ⟨this.2, .inl this.1⟩
            · have := inL_kind p hp; exact ⟨this.2, .inr (.inl this.1)⟩
          · have := preL_kind p hp; exact ⟨this.2, .inr (.inr (.inl this.1))⟩
        · have := ovrL_kind p hp; exact ⟨this.2, .inr (.inr (.inr this.1))⟩
/-- All problems of a plan. -/
noncomputable def allP (t : Temporal) (L : List Launch) (T : List Int) : List simulate_Problem := (runF t L T).2.2 ++ goalL t L (runF t L T).2.1
theorem allP_rk (hA : Acc t L) (hT : Ticks t L T) : (allP t L T).Pairwise (fun p q => rkP (mkS t L) p ≤ rkP (mkS t L) q) ∧ ∀ p ∈ allP t L T, 0 ≤ p.At ∧ p.At ≤ mkS t L ∧ (p.Kind = 18 ∨ p.Kind = 17 ∨ p.Kind = 12 ∨ p.Kind = 16 ∨ p.Kind = 13) ∧ 0 ≤ rkP (mkS t L) p := by
  obtain ⟨h1, h2⟩ := runF_rk (t := t) (L := L) hT (m := mkS t L) T.length (Nat.le_refl _)
  rw [List.take_length] at h1 h2
  have hm0 := (mkS_ge (t := t) (L := L)).1
  have h0 : ∀ a ∈ T, 0 ≤ a ∧ a ≤ mkS t L := fun a ha => by
    obtain ⟨x, hx, rfl⟩ := (hT.mem a).1 ha
    exact tm_le hA hx
  have hg : ∀ p ∈ goalL t L (runF t L T).2.1, rkP (mkS t L) p = 5 * mkS t L + 5 := fun p hp => by
    unfold rkP; rw [(goalL_kind p hp).1]; simp
  unfold allP
  refine ⟨List.pairwise_append.2 ⟨h1, rk_seg hg, fun x hx y hy => ?_⟩, fun p hp => ?_⟩
  · obtain ⟨j, hj, _, _, h4, _⟩ := h2 x hx
    have := h0 _ (List.getElem_mem hj)
    rw [hg y hy]; omega
  · rcases List.mem_append.1 hp with hp | hp
    · obtain ⟨j, hj, _, h3, h4, h5, h6⟩ := h2 p hp
      have := h0 _ (List.getElem_mem hj)
      refine ⟨by omega, by omega, by omega, by omega⟩
    · have := goalL_kind p hp
      rw [hg p hp]
      exact ⟨by omega, by omega, by omega, by omega⟩
theorem mkS_small (hA : Acc t L) : mkS t L ≤ 1048638 := mkS_le (by omega) fun l hl => by
  have h1 := hA.ok l hl
  have := h1.a1
  have := endT_gt hA.chk h1
  omega
theorem simulateOrder_ok {fu : Nat} (hfu : 1000 ≤ fu) (t : Temporal) (L : List Launch) : law58_SimulateOrder_p fu t L = some true := by
  unfold law58_SimulateOrder_p
  refine law_hd hfu fun ht hn => ?_
  rw [back_ok L (by omega)]
  have hp : L.Perm L.reverse := (List.reverse_perm L).symm
  obtain ⟨r, h1, h2⟩ := Run_ok hfu ht (L := L) (by omega)
  obtain ⟨q, g1, g2⟩ := Run_ok hfu ht (L := L.reverse) (by simp; omega)
  simp only [Option.bind_some]
  rw [h1, Option.bind_some, g1]
  rcases h2 with ⟨hnA, z, _, ha, _, rfl⟩ | h2
  · rcases g2 with ⟨_, z', _, ha', _, rfl⟩ | g2
    · obtain ⟨c, hc, _⟩ := Check_ok ht
      have e1 := accept_eq (L := L) hc (by omega)
      have e2 := accept_eq (L := L.reverse) hc (by simp; omega)
      rw [List.all_reverse, ← e1, ha, ha'] at e2
      cases e2
      simp [un2]
    · exact absurd (g2.1.perm' hp.symm) hnA
  · rcases g2 with ⟨hnA, _⟩ | g2
    · exact absurd (h2.1.perm' hp) hnA
    obtain ⟨hA, T, hT, rfl⟩ := h2.few hn
    obtain ⟨hA', T', hT', rfl⟩ := g2.few (by simpa using hn)
    have := (hT.perm' hp).uniq hT'
    subst this
    obtain ⟨p1, p2, p3⟩ := runF_perm hA hp T
    have hka : (allP t L T).map ka = (allP t L.reverse T).map ka := by
      unfold allP goalL
      rw [List.map_append, List.map_append, p3, p2, mkS_perm' hp]
    have hlen : (allP t L T).length = (allP t L.reverse T).length := by
      have := congrArg List.length hka
      simpa using this
    obtain ⟨r1, r2⟩ := allP_rk hA hT
    have hms := mkS_small hA
    have hm0 := (mkS_ge (t := t) (L := L)).1
    have e1 : (runF t L T).2.2 ++ goalL t L (runF t L T).2.1 = allP t L T := rfl
    have e2 : (runF t L.reverse T).2.2 ++ goalL t L.reverse (runF t L.reverse T).2.1 = allP t L.reverse T := rfl
    simp only [un2, Option.bind_some, Option.isSome_none, Bool.or_self, Bool.false_eq_true, if_false]
    rw [e1, e2, if_neg (by simp [hlen]), p1, Same_refl]
    simp only [Option.bind_some, Bool.not_true, Bool.false_eq_true, if_false]
    refine Ok.eq (Ok.ctl (fun j q => q.1 = [18, 17, 12, 16, 13] ∧ (j = 0 ∧ q.2 = 0 ∨ ∃ p, (allP t L T)[j - 1]? = some p ∧ 0 < j ∧ q.2 = rkP (mkS t L) p)) (fun _ => False) ⟨rfl, .inl ⟨rfl, rfl⟩⟩ ?_ (fun r hr => hr.elim) fun q _ => ⟨_, rfl, rfl⟩)
    rintro j ⟨rk, last⟩ hj ⟨rfl, hlast⟩
    simp only at hlast
    have gp := List.getElem?_eq_getElem hj
    obtain ⟨p, ep⟩ : ∃ p, (allP t L T)[j] = p := ⟨_, rfl⟩
    rw [ep] at gp
    obtain ⟨b1, b2, b3, b4⟩ := r2 p (List.mem_of_getElem? gp)
    have hq : ∃ q, (allP t L.reverse T)[j]? = some q ∧ q.Kind = p.Kind ∧ q.At = p.At := by
      have h := congrArg (fun l => l[j]?) hka
      simp only [List.getElem?_map, gp, Option.map_some] at h
      cases hx : (allP t L.reverse T)[j]? with
      | none => rw [hx] at h; cases h
      | some q =>
        rw [hx] at h
        simp only [Option.map_some, Option.some.injEq, ka, Prod.mk.injEq] at h
        exact ⟨q, rfl, h.1.symm, h.2.symm⟩
    obtain ⟨q, gq, q1, q2⟩ := hq
    have hle : last ≤ rkP (mkS t L) p := by
      rcases hlast with ⟨_, rfl⟩ | ⟨p', hp', hj0, rfl⟩
      · exact b4
      · obtain ⟨hj1, rfl⟩ := List.getElem?_eq_some_iff.1 hp'
        have := List.pairwise_iff_getElem.1 r1 (j - 1) j hj1 hj (by omega)
        rw [ep] at this
        exact this
    simp only [un2]
    refine Ok.step (by rw [idx_nat]; exact gp) ?_
    have hin : forS (fun i102 => fun (rank100 : Int) => (idx [18, 17, 12, 16, 13] (i102 : Int)).bind fun x102 =>
        (if decide (p.Kind = x102) then (some (IntKind.i64.wrap ((IntKind.i64.wrap (5 * p.At)) + (i102 : Int))))
        else (some rank100)).bind (fun (rank101 : Int) => some rank101)) ([18, 17, 12, 16, 13] : List Int).length 0 0 = some (if p.Kind = 13 then 5 * p.At + 4 else rkP (mkS t L) p) := by
      have w0 : IntKind.i64.wrap (5 * p.At) = 5 * p.At := wrap_id (by omega) (by omega)
      have w1 : ∀ k : Nat, k < 5 → IntKind.i64.wrap (5 * p.At + (k : Int)) = 5 * p.At + k := fun k hk => wrap_id (by omega) (by omega)
      have i0 : idx ([18, 17, 12, 16, 13] : List Int) ((0 : Nat) : Int) = some 18 := rfl
      have i1 : idx ([18, 17, 12, 16, 13] : List Int) ((0 + 1 : Nat) : Int) = some 17 := rfl
      have i2 : idx ([18, 17, 12, 16, 13] : List Int) ((0 + 1 + 1 : Nat) : Int) = some 12 := rfl
      have i3 : idx ([18, 17, 12, 16, 13] : List Int) ((0 + 1 + 1 + 1 : Nat) : Int) = some 16 := rfl
      have i4 : idx ([18, 17, 12, 16, 13] : List Int) ((0 + 1 + 1 + 1 + 1 : Nat) : Int) = some 13 := rfl
      show forS _ 5 0 0 = _
      simp only [forS, i0, i1, i2, i3, i4, Option.bind_some, w0, w1 0 (by omega), w1 (0 + 1) (by omega), w1 (0 + 1 + 1) (by omega), w1 (0 + 1 + 1 + 1) (by omega), w1 (0 + 1 + 1 + 1 + 1) (by omega)]
      unfold rkP
      rcases b3 with h | h | h | h | h <;> rw [h] <;> simp
    refine Ok.bind (Ok.of hin ?_)
    have hrk : (if decide (p.Kind = 13) then (some (IntKind.i64.wrap ((IntKind.i64.wrap (5 * mkS t L)) + 5))) else (some (if p.Kind = 13 then 5 * p.At + 4 else rkP (mkS t L) p))) = some (rkP (mkS t L) p) := by
      by_cases h : p.Kind = 13
      · rw [if_pos (by simpa using h), wrap_id (n := 5 * mkS t L) (by omega) (by omega), wrap_id (by omega) (by omega)]
        unfold rkP; rw [if_pos h]
      · rw [if_neg (by simpa using h), if_neg h]
    refine Ok.bind (Ok.of hrk ?_)
    rw [idx_nat, gq, Option.bind_some, q1, q2]
    rw [if_neg (by simp), if_neg (by simp), Option.bind_some, if_neg (by simp; omega)]
    exact ⟨_, rfl, rfl, .inr ⟨p, by simpa using gp, by omega, rfl⟩⟩
end
end Go.Pw
