/-
  Simulation: the stable sort of a tick's events (one block), and what write does.
-/
import Derived.Test.YthbgcahoknmmmaaGreatRzHH
import Derived.Test.YthbgcahoknmmmaaGreatRzC
set_option linter.unusedVariables false
set_option linter.unusedSimpArgs false
namespace Go.Pw
instance : Inhabited simulate_Event := ⟨⟨0, 0, false⟩⟩
def eva (l : List simulate_Event) (i : Nat) : simulate_Event := l[i]!
theorem eva_get {l : List simulate_Event} {i : Nat} (h : i < l.length) : l[i]? = some (eva l i) := by simp [eva, h]
theorem eva_eq {l : List simulate_Event} {i : Nat} (h : i < l.length) : l[i] = eva l i := by simp [eva, h]
theorem eva_set {l : List simulate_Event} {i a : Nat} {x : simulate_Event} (hi : i < l.length) : eva (l.set i x) a = if a = i then x else eva l a := by
  unfold eva
  rw [List.getElem!_eq_getElem?_getD, List.getElem!_eq_getElem?_getD]
  by_cases c : a = i
  · subst c; rw [List.getElem?_set_self hi, if_pos rfl]; rfl
  · rw [List.getElem?_set_ne (Ne.symm c), if_neg c]
def jobE (L : List Launch) (e : simulate_Event) : Int := (lau L e.Launch.toNat).Job
def Lt2 (L : List Launch) (x y : simulate_Event) : Prop := rkE x < rkE y ∨ rkE x = rkE y ∧ jobE L x < jobE L y
def Wo (L : List Launch) (x y : simulate_Event) : Prop := rkE x < rkE y ∨ rkE x = rkE y ∧ (jobE L x < jobE L y ∨ jobE L x = jobE L y ∧ x.Launch < y.Launch)
def Pr0 (x y : simulate_Event) : Prop := rkE x = rkE y → x.Launch < y.Launch
def EvOK (L : List Launch) (e : simulate_Event) : Prop := 0 ≤ e.Launch ∧ e.Launch < L.length
theorem lauE {L : List Launch} {e : simulate_Event} (h : EvOK L e) : idx L e.Launch = some (lau L e.Launch.toNat) := by
  obtain ⟨a, b⟩ := h
  obtain ⟨n, hn⟩ : ∃ n : Nat, e.Launch = (n : Int) := ⟨e.Launch.toNat, by omega⟩
  rw [hn, idx_nat, lau_get (by omega)]; rfl
theorem cmp2_ok {c : simulate_run} {x y : simulate_Event} (hx : EvOK c.l x) (hy : EvOK c.l y) : Ok (simulate_run_write_c1_p x y c) fun r => decide (r < 0) = true ↔ Lt2 c.l x y := by
  unfold simulate_run_write_c1_p cmp_Or_int_p
  rw [lauE hx, Option.bind_some, lauE hy, Option.bind_some]
  simp only [cmpC, rank_t]
  show Ok ((ctl (forC _ 2 0 ()) _ _).bind _) _
  simp only [forC, idx, ctl]
  have e1 : (if x.End = true then (0 : Int) else 1) = rkE x := rfl
  have e2 : (if y.End = true then (0 : Int) else 1) = rkE y := rfl
  rw [e1, e2]
  show Ok _ fun r => decide (r < 0) = true ↔ rkE x < rkE y ∨ rkE x = rkE y ∧ (lau c.l x.Launch.toNat).Job < (lau c.l y.Launch.toNat).Job
  by_cases h1 : cmpI (rkE x) (rkE y) = 0
  · have e := (cmpI_zero _ _).1 h1
    by_cases h2 : cmpI (lau c.l x.Launch.toNat).Job (lau c.l y.Launch.toNat).Job = 0
    · have e' := (cmpI_zero _ _).1 h2
      refine ⟨0, by simp [h1, h2], ?_⟩
      simp; omega
    · refine ⟨_, by simp [h1, h2]; rfl, ?_⟩
      show (decide (cmpI _ _ < 0) = true ↔ _)
      rw [decide_eq_true_eq, cmpI_neg]; omega
  · have e : rkE x ≠ rkE y := fun h => h1 ((cmpI_zero _ _).2 h)
    refine ⟨_, by simp [h1]; rfl, ?_⟩
    show (decide (cmpI _ _ < 0) = true ↔ _)
    rw [decide_eq_true_eq, cmpI_neg]; omega
/-- An insertion sort of one block. -/
theorem insertion_ok {c : simulate_run} {l0 : List simulate_Event} (hlen : l0.length ≤ 1000) (hok : ∀ e ∈ l0, EvOK c.l e) (hpre : l0.Pairwise Pr0) {b : Int} (hb : b = (l0.length : Int)) :
    Ok (slices_insertionSortCmpFunc_simulateEvent_o_write_c1_p l0 0 b c) fun l => l.Perm l0 ∧ l.Pairwise (Wo c.l) := by
  subst hb
  unfold slices_insertionSortCmpFunc_simulateEvent_o_write_c1_p
  have hW0 : ∀ x y, Lt2 c.l x y → Wo c.l x y := fun x y h => by unfold Lt2 Wo at *; omega
  have hW1 : ∀ x y, ¬ Lt2 c.l y x → Pr0 x y → Wo c.l x y := fun x y h h' => by unfold Lt2 Wo Pr0 at *; omega
  have hWt : ∀ x y z, Wo c.l x y → Wo c.l y z → Wo c.l x z := fun x y z h h' => by unfold Wo at *; omega
  refine Ok.while (fun q => ∃ i : Nat, q.1 = (i : Int) ∧ 1 ≤ i ∧ (i ≤ l0.length ∨ l0.length = 0) ∧ q.2.Perm l0 ∧ (q.2.take i).Perm (l0.take i) ∧ q.2.drop i = l0.drop i ∧ ∀ a b, a < b → b < i → b < l0.length → Wo c.l (eva q.2 a) (eva q.2 b)) (fun q => q.2.Perm l0 ∧ q.2.Pairwise (Wo c.l)) (fun _ => False) (fun q => l0.length + 1 - q.1.toNat)
    ⟨1, by rw [wrap_id (by omega) (by omega)]; rfl, Nat.le_refl _, by omega, .refl _, .refl _, rfl, fun a b h1 h2 => by omega⟩ ?_ (fun r hr => hr.elim) fun q hq => ⟨q.2, rfl, hq⟩
  rintro ⟨i', l⟩ ⟨i, hi', hi1, hile, hp, htk, hdr, hs⟩
  simp only at hi' hp htk hdr hs
  subst hi'
  have hll := hp.length_eq
  by_cases hlt : i < l0.length
  · -- one more is put in its place
    have hin : Ok (ctl (whileC (R := List simulate_Event) (un2 fun (j100 : Int) (l101 : (List simulate_Event)) => (if decide ((0 : Int) < j100) then ((idx l101 j100).bind fun x100 => (idx l101 (IntKind.i64.wrap (j100 - 1))).bind fun x101 => (simulate_run_write_c1_p x100 x101 c).bind <| fun (y100 : Int) => some (decide (y100 < 0)))
        else (some false)).bind (fun (z100 : Bool) => if z100 then ((idx l101 (IntKind.i64.wrap (j100 - 1))).bind fun x102 => (idx l101 j100).bind fun x103 => (setI l101 j100 x102).bind fun l102 => (idx l102 (IntKind.i64.wrap (j100 - 1))).bind fun x104 => (setI l102 (IntKind.i64.wrap (j100 - 1)) x103).bind fun l103 => some (Ctl.next (IntKind.i64.wrap (j100 - 1), l103)))
        else (some (Ctl.brk (j100, l101))))) ((i : Int), l)) (fun r => some (Ctl.ret r)) (un2 fun (j101 : Int) (l104 : (List simulate_Event)) => (some (Ctl.next (IntKind.i64.wrap ((i : Int) + 1), l104)) : Option (Ctl (Int × List simulate_Event) (List simulate_Event)))))
        (fun r => ∃ l', r = Ctl.next (((i + 1 : Nat) : Int), l') ∧ l'.Perm l0 ∧ (l'.take (i + 1)).Perm (l0.take (i + 1)) ∧ l'.drop (i + 1) = l0.drop (i + 1) ∧ ∀ a b, a < b → b < i + 1 → b < l0.length → Wo c.l (eva l' a) (eva l' b)) := by
      refine Ok.while (fun q => ∃ k : Nat, q.1 = (k : Int) ∧ k ≤ i ∧ q.2.Perm l0 ∧ (q.2.take (i + 1)).Perm (l0.take (i + 1)) ∧ q.2.drop (i + 1) = l0.drop (i + 1) ∧ (∀ a b, a < b → b ≤ i → b ≠ k → Wo c.l (eva q.2 a) (eva q.2 b)) ∧ (∀ a, a < k → Pr0 (eva q.2 a) (eva q.2 k)))
        (fun q => q.2.Perm l0 ∧ (q.2.take (i + 1)).Perm (l0.take (i + 1)) ∧ q.2.drop (i + 1) = l0.drop (i + 1) ∧ ∀ a b, a < b → b < i + 1 → b < l0.length → Wo c.l (eva q.2 a) (eva q.2 b)) (fun _ => False) (fun q => q.1.toNat) ⟨i, rfl, Nat.le_refl _, hp, ?_, ?_, fun a b h1 h2 h3 => hs a b h1 (by omega) (by omega), ?_⟩ ?_ (fun r hr => hr.elim) fun q hq => ⟨_, rfl, q.2, by show Ctl.next (IntKind.i64.wrap ((i : Int) + 1), q.2) = _; rw [wrap_id (by omega) (by omega)]; rfl, hq⟩
      · have e1 := take_snoc (l := l) (j := i) (by omega)
        have e2 := take_snoc (l := l0) (j := i) hlt
        have e3 : l[i]'(by omega) = l0[i] := by
          have h3 := congrArg (fun z => z[0]?) hdr
          simp only [List.getElem?_drop, Nat.add_zero] at h3
          rw [List.getElem?_eq_getElem (by omega), List.getElem?_eq_getElem hlt] at h3
          exact Zu h3
        rw [e1, e2, e3]
        exact htk.append (.refl _)
      · rw [← List.drop_drop, ← List.drop_drop, hdr]
      · intro a ha
        -- what stands ahead came ahead
        have h3 : eva l i = l0[i] := by
          have h3 := congrArg (fun z => z[0]?) hdr
          simp only [List.getElem?_drop, Nat.add_zero] at h3
          rw [eva_get (by omega), List.getElem?_eq_getElem hlt] at h3
          exact Zu h3
        have h4 : eva l a ∈ l0.take i := by
          refine htk.mem_iff.1 ?_
          refine List.mem_of_getElem? (i := a) ?_
          rw [List.getElem?_take_of_lt ha, eva_get (by omega)]
        obtain ⟨a', ha', e⟩ := List.mem_iff_getElem.1 h4
        rw [List.length_take] at ha'
        rw [List.getElem_take] at e
        rw [h3, ← e]
        exact List.pairwise_iff_getElem.1 hpre a' i (by omega) hlt (by omega)
      rintro ⟨k', l⟩ ⟨k, hk, hki, hp, htk, hdr, hs, hpr⟩
      simp only at hk hp htk hdr hs hpr
      subst hk
      have hll := hp.length_eq
      have done : (k = 0 ∨ ∃ m, k = m + 1 ∧ ¬ Lt2 c.l (eva l k) (eva l m)) → ∀ a b, a < b → b < i + 1 → b < l0.length → Wo c.l (eva l a) (eva l b) := fun h a b h1 h2 _ => by
        by_cases e : b = k
        · subst e
          rcases h with h | ⟨m, rfl, h⟩
          · omega
          · have h3 := hW1 _ _ h (hpr m (by omega))
            by_cases e : a = m
            · subst e; exact h3
            · exact hWt _ _ _ (hs a m (by omega) (by omega) (by omega)) h3
        · exact hs a b h1 (by omega) e
      cases k with
      | zero =>
        refine ⟨_, rfl, (fun s' e => by cases e), fun s' e => ?_, (fun r e => by cases e)⟩
        cases e
        exact ⟨hp, htk, hdr, done (.inl rfl)⟩
      | succ m =>
        have hm1 : m + 1 < l.length := by omega
        have gx : idx l ((m + 1 : Nat) : Int) = some (eva l (m + 1)) := by rw [idx_nat]; exact eva_get hm1
        have gy : idx l (m : Int) = some (eva l m) := by rw [idx_nat]; exact eva_get (by omega)
        have ew : IntKind.i64.wrap (((m + 1 : Nat) : Int) - 1) = (m : Int) := by rw [wrap_id (by omega) (by omega)]; omega
        have ox : EvOK c.l (eva l (m + 1)) := hok _ (hp.mem_iff.1 (List.mem_of_getElem? (eva_get hm1)))
        have oy : EvOK c.l (eva l m) := hok _ (hp.mem_iff.1 (List.mem_of_getElem? (eva_get (by omega))))
        obtain ⟨r, hr, hr2⟩ := cmp2_ok ox oy
        simp only [un2, ew, gx, gy, Option.bind_some]
        rw [if_pos (by simp), hr, Option.bind_some, Option.bind_some]
        by_cases h : Lt2 c.l (eva l (m + 1)) (eva l m)
        · rw [if_pos (hr2.2 h), setI_nat hm1, Option.bind_some, idx_nat, eva_get (by simp; omega), Option.bind_some, setI_nat (by simp; omega), Option.bind_some]
          refine ⟨_, rfl, fun s' e => ?_, (fun s' e => by cases e), (fun r e => by cases e)⟩
          cases e
          have hla : ∀ a, eva ((l.set (m + 1) (eva l m)).set m (eva l (m + 1))) a = if a = m then eva l (m + 1) else if a = m + 1 then eva l m else eva l a := fun a => by
            rw [eva_set (by simp; omega), eva_set hm1]
          have hpm : ((l.set (m + 1) (eva l m)).set m (eva l (m + 1))).Perm l := by
            rw [← eva_eq hm1, ← eva_eq (show m < l.length by omega)]
            exact List.set_set_perm hm1 (by omega)
          refine ⟨⟨m, rfl, by omega, hpm.trans hp, ?_, ?_, fun a b h1 h2 h3 => ?_, fun a ha => ?_⟩, by simp⟩
          · refine List.Perm.trans ?_ htk
            simp only
            rw [List.take_set, List.take_set]
            have l1 : m + 1 < (l.take (i + 1)).length := by rw [List.length_take]; omega
            have e1 : eva l m = (l.take (i + 1))[m]'(by omega) := by rw [List.getElem_take, eva_eq]
            have e2 : eva l (m + 1) = (l.take (i + 1))[m + 1]'l1 := by rw [List.getElem_take, eva_eq]
            rw [e1, e2]
            exact List.set_set_perm l1 (by omega)
          · simp only
            rw [List.drop_set_of_lt (by omega), List.drop_set_of_lt (by omega), hdr]
          · show Wo c.l (eva ((l.set (m + 1) (eva l m)).set m (eva l (m + 1))) a) (eva ((l.set (m + 1) (eva l m)).set m (eva l (m + 1))) b)
            rw [hla a, hla b]
            by_cases c1 : b = m + 1
            · subst c1
              rw [if_neg (by omega : ¬ m + 1 = m), if_pos rfl]
              by_cases c2 : a = m
              · subst c2; rw [if_pos rfl]; exact hW0 _ _ h
              · rw [if_neg c2, if_neg (by omega)]
                exact hs a m (by omega) (by omega) (by omega)
            · rw [if_neg h3, if_neg c1]
              by_cases c2 : a = m
              · subst c2; rw [if_pos rfl]
                exact hs (a + 1) b (by omega) h2 c1
              · rw [if_neg c2]
                by_cases c3 : a = m + 1
                · subst c3; rw [if_pos rfl]
                  exact hs m b (by omega) h2 c1
                · rw [if_neg c3]; exact hs a b h1 h2 c1
          · show Pr0 (eva ((l.set (m + 1) (eva l m)).set m (eva l (m + 1))) a) (eva ((l.set (m + 1) (eva l m)).set m (eva l (m + 1))) m)
            rw [hla a, hla m, if_neg (by omega), if_neg (by omega), if_pos rfl]
            exact hpr a (by omega)
        · rw [if_neg (fun hh => h (hr2.1 hh))]
          refine ⟨_, rfl, (fun s' e => by cases e), fun s' e => ?_, (fun r e => by cases e)⟩
          cases e
          exact ⟨hp, htk, hdr, done (.inr ⟨m, rfl, h⟩)⟩
    obtain ⟨r, h1, l', rfl, h2, h3, h4, h5⟩ := hin
    refine ⟨Ctl.next (((i + 1 : Nat) : Int), l'), ?_, fun s' e => ?_, (fun s' e => by cases e), (fun r e => by cases e)⟩
    · simp only [un2]
      rw [if_pos (by simpa using hlt)]
      exact h1
    · cases e
      exact ⟨⟨i + 1, rfl, by omega, by omega, h2, h3, h4, h5⟩, by simp only [Int.toNat_natCast]; omega⟩
  · refine ⟨Ctl.brk ((i : Int), l), ?_, (fun s' e => by cases e), fun s' e => ?_, (fun r e => by cases e)⟩
    · simp only [un2]
      rw [if_neg (by simp; omega)]
    · cases e
      refine ⟨hp, List.pairwise_iff_getElem.2 fun a b ha hb hab => ?_⟩
      have hb' : b < l.length := hb
      have := hs a b hab (by omega) (by omega)
      rw [eva_eq ha, eva_eq hb]
      exact this
end Go.Pw
/-
  Simulation: the stable sort of any number of events gives the same events; of one block, in order.
-/
namespace Go.Pw
theorem half_ok {x : Int} (h0 : 0 ≤ x) (h1 : x ≤ 4000000) : IntKind.i64.wrap ((IntKind.u64.wrap (IntKind.i64.wrap x)).fdiv (2 ^ 1)) = x / 2 := by
  rw [wrap_id (n := x) (by omega) (by omega)]
  have e : IntKind.u64.wrap x = x := by
    simp [IntKind.wrap, IntKind.signed, IntKind.bits]
    omega
  rw [e]
  have e2 : x.fdiv (2 ^ 1) = x / 2 := by
    rw [Int.fdiv_eq_ediv_of_nonneg _ (by decide)]; rfl
  rw [e2, wrap_id (by omega) (by omega)]
/-- How a round of a loop without a count ends. -/
def WhP {S R : Type} (Inv : S → Prop) (Bp : S → Prop) (Rp : R → Prop) (μ : S → Nat) (s : S) : Ctl S R → Prop
  | .next s' => Inv s' ∧ μ s' < μ s
  | .brk s' => Bp s'
  | .ret r => Rp r
theorem Ok.whl {S R β : Type} {B : S → Option (Ctl S R)} {s : S} {Q : β → Prop} {kr : R → Option β} {k : S → Option β} (Inv : S → Prop) (Bp : S → Prop) (Rp : R → Prop) (μ : S → Nat) (h0 : Inv s)
    (h : ∀ s, Inv s → Ok (B s) (WhP Inv Bp Rp μ s)) (hr : ∀ r, Rp r → Ok (kr r) Q) (hb : ∀ s, Bp s → Ok (k s) Q) : Ok (Go.Pw.ctl (whileC B s) kr k) Q :=
  Ok.while Inv Bp Rp μ h0 (fun s hs => let ⟨c, h1, h2⟩ := h s hs; ⟨c, h1, (fun s' e => by subst e; exact h2), (fun s' e => by subst e; exact h2), (fun r e => by subst e; exact h2)⟩) hr hb
theorem Ok.swap {α β : Type} {l : List α} {p q : Int} {f : List α → Option β} {P : β → Prop} (hp0 : 0 ≤ p) (hp : p < l.length) (hq0 : 0 ≤ q) (hq : q < l.length) (k : ∀ l', l'.Perm l → Ok (f l') P) :
    Ok ((idx l p).bind fun x => (idx l q).bind fun y => (setI l q x).bind fun l1 => (idx l1 p).bind fun _ => (setI l1 p y).bind f) P := by
  obtain ⟨i, rfl⟩ : ∃ n : Nat, p = (n : Int) := ⟨p.toNat, by omega⟩
  obtain ⟨j, rfl⟩ : ∃ n : Nat, q = (n : Int) := ⟨q.toNat, by omega⟩
  have hi : i < l.length := by omega
  have hj : j < l.length := by omega
  rw [idx_nat, idx_nat, List.getElem?_eq_getElem hi, List.getElem?_eq_getElem hj, Option.bind_some, Option.bind_some, setI_nat hj, Option.bind_some, idx_nat, List.getElem?_eq_getElem (by simpa using hi), Option.bind_some, setI_nat (by simpa using hi), Option.bind_some]
  exact k _ (List.set_set_perm hj hi)
section
variable {c : simulate_run}
def EvA (L : List Launch) (l : List simulate_Event) : Prop := ∀ e ∈ l, EvOK L e
theorem EvA.perm {L : List Launch} {l l' : List simulate_Event} (h : EvA L l) (hp : l'.Perm l) : EvA L l' := fun e he => h e (hp.mem_iff.1 he)
theorem EvA.idx {l : List simulate_Event} (h : EvA c.l l) {i : Int} (h0 : 0 ≤ i) (h1 : i < l.length) : ∃ e, idx l i = some e ∧ EvOK c.l e := by
  obtain ⟨e, h2, h3⟩ := idx_some' h0 h1
  exact ⟨e, h2, h e (List.mem_of_getElem? h3)⟩
/-- A comparison. -/
theorem Ok.cmpE {β : Type} {l : List simulate_Event} (h : EvA c.l l) {i j : Int} (i0 : 0 ≤ i) (i1 : i < l.length) (j0 : 0 ≤ j) (j1 : j < l.length) {f : Int → Option β} {P : β → Prop} (k : ∀ r, Ok (f r) P) :
    Ok ((idx l i).bind fun x => (idx l j).bind fun y => (simulate_run_write_c1_p x y c).bind f) P := by
  obtain ⟨x, e1, o1⟩ := h.idx i0 i1
  obtain ⟨y, e2, o2⟩ := h.idx j0 j1
  obtain ⟨r, e3, _⟩ := cmp2_ok o1 o2
  exact Ok.step e1 (Ok.step e2 (Ok.step e3 (k r)))
/-- An insertion sort keeps what is there. -/
theorem insertion_perm {l0 : List simulate_Event} (hlen : l0.length ≤ 1000) (hok : EvA c.l l0) {a b : Int} (ha : 0 ≤ a) (hb : b ≤ l0.length) (hab : a ≤ 1000) :
    Ok (slices_insertionSortCmpFunc_simulateEvent_o_write_c1_p l0 a b c) fun l => l.Perm l0 := by
  unfold slices_insertionSortCmpFunc_simulateEvent_o_write_c1_p
  refine Ok.whl (fun q => a + 1 ≤ q.1 ∧ q.1 ≤ 1001 ∧ q.2.Perm l0) (fun q => q.2.Perm l0) (fun _ => False) (fun q => (1001 - q.1).toNat) ⟨by rw [wrap_id (by omega) (by omega)]; exact Int.le_refl _, by simp only [wrap_id (n := a + 1) (by omega) (by omega)]; omega, .refl _⟩ ?_ (fun r hr => hr.elim) fun q hq => ⟨q.2, rfl, hq⟩
  rintro ⟨i, l⟩ ⟨h1, h2, hp⟩
  simp only at h1 h2 hp
  simp only [un2, un3]
  have hl := hp.length_eq
  refine Ok.ite (fun hlt => ?_) fun hlt => ⟨_, rfl, hp⟩
  have hlt := dec_t hlt
  refine Ok.whl (fun q => a ≤ q.1 ∧ q.1 ≤ i ∧ q.2.Perm l0) (fun q => q.2.Perm l0) (fun _ => False) (fun q => (q.1 - a).toNat) ⟨by simp only; omega, Int.le_refl _, hp⟩ ?_ (fun r hr => hr.elim) fun q hq => ⟨_, rfl, ⟨?_, ?_, hq⟩, ?_⟩
  · rintro ⟨k, m⟩ ⟨g1, g2, g3⟩
    simp only at g1 g2 g3
    simp only [un2, un3]
    have hml := g3.length_eq
    refine Ok.bind (Ok.ite (fun hk => ?_) fun hk => ⟨_, rfl, _, rfl, g3⟩)
    have hk := dec_t hk
    have ew : IntKind.i64.wrap (k - 1) = k - 1 := wrap_id (by omega) (by omega)
    rw [ew]
    refine Ok.cmpE (hok.perm g3) (by omega) (by omega) (by omega) (by omega) fun r => ⟨_, rfl, ?_⟩
    refine Ok.ite (fun _ => ?_) fun _ => ⟨_, rfl, g3⟩
    exact Ok.swap (by omega) (by omega) (by omega) (by omega) fun m' hm => ⟨_, rfl, ⟨by simp only; omega, by simp only; omega, hm.trans g3⟩, by simp only; omega⟩
  · simp only; rw [wrap_id (by omega) (by omega)]; omega
  · simp only; rw [wrap_id (by omega) (by omega)]; omega
  · simp only; rw [wrap_id (by omega) (by omega)]; omega
theorem swapRange_perm {l0 : List simulate_Event} (hlen : l0.length ≤ 1000) {a b n : Int} (ha : 0 ≤ a) (hb : 0 ≤ b) (han : a + n ≤ l0.length) (hbn : b + n ≤ l0.length) :
    Ok (slices_swapRangeCmpFunc_simulateEvent_o_write_c1_p l0 a b n c) fun l => l.Perm l0 := by
  unfold slices_swapRangeCmpFunc_simulateEvent_o_write_c1_p
  refine Ok.whl (fun q => 0 ≤ q.1 ∧ q.2.Perm l0) (fun q => q.2.Perm l0) (fun _ => False) (fun q => (n - q.1).toNat) ⟨Int.le_refl _, .refl _⟩ ?_ (fun r hr => hr.elim) fun q hq => ⟨q.2, rfl, hq⟩
  rintro ⟨i, l⟩ ⟨h1, hp⟩
  simp only at h1 hp
  simp only [un2, un3]
  have hl := hp.length_eq
  refine Ok.ite (fun hlt => ?_) fun hlt => ⟨_, rfl, hp⟩
  have hlt := dec_t hlt
  rw [wrap_id (n := b + i) (by omega) (by omega), wrap_id (n := a + i) (by omega) (by omega), wrap_id (n := i + 1) (by omega) (by omega)]
  exact Ok.swap (by omega) (by omega) (by omega) (by omega) fun m' hm => ⟨_, rfl, ⟨by simp only; omega, hm.trans hp⟩, by simp only; omega⟩
theorem rotate_perm {l0 : List simulate_Event} (hlen : l0.length ≤ 1000) {a m b : Int} (ha : 0 ≤ a) (ham : a < m) (hmb : m < b) (hb : b ≤ l0.length) :
    Ok (slices_rotateCmpFunc_simulateEvent_o_write_c1_p l0 a m b c) fun l => l.Perm l0 := by
  unfold slices_rotateCmpFunc_simulateEvent_o_write_c1_p
  rw [wrap_id (n := m - a) (by omega) (by omega), wrap_id (n := b - m) (by omega) (by omega)]
  refine Ok.whl (fun q => 0 < q.1 ∧ q.1 ≤ m - a ∧ 0 < q.2.1 ∧ q.2.1 ≤ b - m ∧ q.2.2.Perm l0) (fun q => 0 < q.1 ∧ q.1 ≤ m - a ∧ q.1 ≤ b - m ∧ q.2.2.Perm l0) (fun _ => False) (fun q => (q.1 + q.2.1).toNat) ⟨by simp only; omega, Int.le_refl _, by simp only; omega, Int.le_refl _, .refl _⟩ ?_ (fun r hr => hr.elim) ?_
  · rintro ⟨i, j, l⟩ ⟨h1, h2, h3, h4, hp⟩
    simp only at h1 h2 h3 h4 hp
    simp only [un2, un3]
    have hl := hp.length_eq
    refine Ok.ite (fun hne => Ok.bind (Ok.ite (fun hlt => Ok.bind ?_) fun hlt => Ok.bind ?_)) fun he => ⟨_, rfl, h1, h2, ?_, hp⟩
    · have hlt := dec_t hlt
      rw [wrap_id (n := m - i) (by omega) (by omega)]
      refine (swapRange_perm (by omega) (by omega) (by omega) (by omega) (by omega)).mono fun l' hl' => ⟨_, rfl, _, rfl, ⟨?_, ?_, h3, h4, hl'.trans hp⟩, ?_⟩ <;> (simp only; rw [wrap_id (n := i - j) (by omega) (by omega)]; omega)
    · have hlt := dec_f hlt
      have hne : i ≠ j := by simpa using hne
      rw [wrap_id (n := m - i) (by omega) (by omega), wrap_id (n := m + j) (by omega) (by omega), wrap_id (n := m + j - i) (by omega) (by omega)]
      refine (swapRange_perm (by omega) (by omega) (by omega) (by omega) (by omega)).mono fun l' hl' => ⟨_, rfl, _, rfl, ⟨h1, h2, ?_, ?_, hl'.trans hp⟩, ?_⟩ <;> (simp only; rw [wrap_id (n := j - i) (by omega) (by omega)]; omega)
    · have he : i = j := by simpa using he
      simp only; omega
  · rintro ⟨i, j, l⟩ ⟨h1, h2, h3, hp⟩
    simp only at h1 h2 h3 hp
    have hl := hp.length_eq
    simp only [un3]
    rw [wrap_id (n := m - i) (by omega) (by omega)]
    exact Ok.bind ((swapRange_perm (by omega) (by omega) (by omega) (by omega) (by omega)).mono fun l' hl' => ⟨_, rfl, hl'.trans hp⟩)
theorem symMerge_perm : ∀ (fu : Nat) {l0 : List simulate_Event} {a m b : Int}, l0.length ≤ 1000 → EvA c.l l0 → 0 ≤ a → a < m → m < b → b ≤ l0.length → b - a ≤ fu →
    Ok (slices_symMergeCmpFunc_simulateEvent_o_write_c1_p fu l0 a m b c) fun l => l.Perm l0
  | 0, l0, a, m, b, _, _, _, _, _, _, h => by omega
  | fu + 1, l0, a, m, b, hlen, hok, ha, ham, hmb, hb, hfu => by
    unfold slices_symMergeCmpFunc_simulateEvent_o_write_c1_p
    rw [wrap_id (n := m - a) (by omega) (by omega), wrap_id (n := b - m) (by omega) (by omega)]
    refine Ok.ite (fun h => ?_) fun hm1 => Ok.ite (fun h => ?_) fun hb1 => ?_
    · refine Ok.whl (fun q => m ≤ q.1 ∧ q.1 ≤ q.2 ∧ q.2 ≤ b) (fun q => m ≤ q.1 ∧ q.1 ≤ b) (fun _ => False) (fun q => (q.2 - q.1).toNat) ⟨Int.le_refl _, by simp only; omega, Int.le_refl _⟩ ?_ (fun r hr => hr.elim) ?_
      · rintro ⟨i, j⟩ ⟨h1, h2, h3⟩
        simp only at h1 h2 h3
        simp only [un2, un3]
        refine Ok.ite (fun hlt => ?_) fun hlt => ⟨_, rfl, h1, by simp only; omega⟩
        have hlt := dec_t hlt
        rw [half_ok (by omega) (by omega)]
        refine Ok.cmpE hok (by omega) (by omega) (by omega) (by omega) fun r => ?_
        refine Ok.bind (Ok.ite (fun _ => ⟨_, rfl, _, rfl, ⟨?_, ?_, ?_⟩, ?_⟩) fun _ => ⟨_, rfl, _, rfl, ⟨?_, ?_, ?_⟩, ?_⟩)
        all_goals try rw [wrap_id (n := (i + j) / 2 + 1) (by omega) (by omega)]
        all_goals (simp only; omega)
      · rintro ⟨i, j⟩ ⟨h1, h2⟩
        simp only at h1 h2
        simp only [un2]
        rw [wrap_id (n := i - 1) (by omega) (by omega)]
        refine Ok.whl (fun q => a ≤ q.1 ∧ q.2.Perm l0) (fun q => q.2.Perm l0) (fun _ => False) (fun q => (b - q.1).toNat) ⟨Int.le_refl _, .refl _⟩ ?_ (fun r hr => hr.elim) fun q hq => ⟨q.2, rfl, hq⟩
        rintro ⟨k, l⟩ ⟨g1, hp⟩
        simp only at g1 hp
        simp only [un2, un3]
        have hl := hp.length_eq
        refine Ok.ite (fun hlt => ?_) fun hlt => ⟨_, rfl, hp⟩
        have hlt := dec_t hlt
        rw [wrap_id (n := k + 1) (by omega) (by omega)]
        exact Ok.swap (by omega) (by omega) (by omega) (by omega) fun m' hm => ⟨_, rfl, ⟨by simp only; omega, hm.trans hp⟩, by simp only; omega⟩
    · refine Ok.whl (fun q => a ≤ q.1 ∧ q.1 ≤ q.2 ∧ q.2 ≤ m) (fun q => a ≤ q.1 ∧ q.1 ≤ m) (fun _ => False) (fun q => (q.2 - q.1).toNat) ⟨Int.le_refl _, by simp only; omega, Int.le_refl _⟩ ?_ (fun r hr => hr.elim) ?_
      · rintro ⟨i, j⟩ ⟨h1, h2, h3⟩
        simp only at h1 h2 h3
        simp only [un2, un3]
        refine Ok.ite (fun hlt => ?_) fun hlt => ⟨_, rfl, h1, by simp only; omega⟩
        have hlt := dec_t hlt
        rw [half_ok (by omega) (by omega)]
        refine Ok.cmpE hok (by omega) (by omega) (by omega) (by omega) fun r => ?_
        refine Ok.bind (Ok.ite (fun _ => ⟨_, rfl, _, rfl, ⟨?_, ?_, ?_⟩, ?_⟩) fun _ => ⟨_, rfl, _, rfl, ⟨?_, ?_, ?_⟩, ?_⟩)
        all_goals try rw [wrap_id (n := (i + j) / 2 + 1) (by omega) (by omega)]
        all_goals (simp only; omega)
      · rintro ⟨i, j⟩ ⟨h1, h2⟩
        simp only at h1 h2
        simp only [un2]
        refine Ok.whl (fun q => i ≤ q.1 ∧ q.1 ≤ m ∧ q.2.Perm l0) (fun q => q.2.Perm l0) (fun _ => False) (fun q => (q.1 - a).toNat) ⟨by simp only; omega, Int.le_refl _, .refl _⟩ ?_ (fun r hr => hr.elim) fun q hq => ⟨q.2, rfl, hq⟩
        rintro ⟨k, l⟩ ⟨g1, g2, hp⟩
        simp only at g1 g2 hp
        simp only [un2, un3]
        have hl := hp.length_eq
        refine Ok.ite (fun hlt => ?_) fun hlt => ⟨_, rfl, hp⟩
        have hlt := dec_t hlt
        rw [wrap_id (n := k - 1) (by omega) (by omega)]
        exact Ok.swap (by omega) (by omega) (by omega) (by omega) fun m' hm => ⟨_, rfl, ⟨by simp only; omega, by simp only; omega, hm.trans hp⟩, by simp only; omega⟩
    · have hm1 : m - a ≠ 1 := dec_f hm1
      have hb1 : b - m ≠ 1 := dec_f hb1
      rw [half_ok (x := a + b) (by omega) (by omega)]
      obtain ⟨mid, hmid⟩ : ∃ mid, (a + b) / 2 = mid := ⟨_, rfl⟩
      rw [hmid]
      have c1 : 2 * mid ≤ a + b := by omega
      have c2 : a + b ≤ 2 * mid + 1 := by omega
      clear hmid
      rw [wrap_id (n := mid + m) (by omega) (by omega), wrap_id (n := mid + m - b) (by omega) (by omega), wrap_id (n := mid + m - 1) (by omega) (by omega)]
      have key : Ok (if decide (mid < m) then (some (mid + m - b, mid)) else (some (a, m))) fun q : Int × Int => a ≤ q.1 ∧ mid + m - b ≤ q.1 ∧ q.1 ≤ q.2 ∧ q.2 ≤ mid + m - a ∧ q.2 ≤ m ∧ mid ≤ mid + m - q.2 ∧ (q.2 ≤ mid ∨ q.2 = m ∧ m ≤ mid) ∧ (q.2 ≤ mid) := by
        refine Ok.ite (fun h => ⟨_, rfl, ?_⟩) fun h => ⟨_, rfl, ?_⟩
        · have h := dec_t h; simp only; omega
        · have h := dec_f h; simp only; omega
      refine Ok.bind (key.mono ?_)
      rintro ⟨s0, r0⟩ ⟨k1, k2, k3, k4, k5, k6, k7, k8⟩
      simp only at k1 k2 k3 k4 k5 k6 k7 k8
      simp only [un2]
      refine Ok.whl (fun q => s0 ≤ q.1 ∧ q.1 ≤ q.2 ∧ q.2 ≤ r0) (fun q => s0 ≤ q.1 ∧ q.1 ≤ r0) (fun _ => False) (fun q => (q.2 - q.1).toNat) ⟨Int.le_refl _, k3, Int.le_refl _⟩ ?_ (fun r hr => hr.elim) ?_
      · rintro ⟨i, j⟩ ⟨h1, h2, h3⟩
        simp only at h1 h2 h3
        simp only [un2, un3]
        refine Ok.ite (fun hlt => ?_) fun hlt => ⟨_, rfl, h1, by simp only; omega⟩
        have hlt := dec_t hlt
        rw [half_ok (x := i + j) (by omega) (by omega), wrap_id (n := mid + m - 1 - (i + j) / 2) (by omega) (by omega)]
        refine Ok.cmpE hok (by omega) (by omega) (by omega) (by omega) fun r => ?_
        refine Ok.bind (Ok.ite (fun _ => ⟨_, rfl, _, rfl, ⟨?_, ?_, ?_⟩, ?_⟩) fun _ => ⟨_, rfl, _, rfl, ⟨?_, ?_, ?_⟩, ?_⟩)
        all_goals try rw [wrap_id (n := (i + j) / 2 + 1) (by omega) (by omega)]
        all_goals (simp only; omega)
      · rintro ⟨s, r⟩ ⟨h1, h2⟩
        simp only at h1 h2
        simp only [un2]
        rw [wrap_id (n := mid + m - s) (by omega) (by omega)]
        have t1 : Ok (if ((decide (s < m)) && decide (m < mid + m - s)) then ((slices_rotateCmpFunc_simulateEvent_o_write_c1_p l0 s m (mid + m - s) c).bind fun l => some l) else (some l0)) fun l => l.Perm l0 := by
          refine Ok.ite (fun h => Ok.bind ((rotate_perm hlen (by omega) ?_ ?_ (by omega)).mono fun l h => ⟨l, rfl, h⟩)) fun _ => ⟨_, rfl, .refl _⟩
          · simp only [Bool.and_eq_true, decide_eq_true_eq] at h; omega
          · simp only [Bool.and_eq_true, decide_eq_true_eq] at h; omega
        refine Ok.bind (t1.mono fun l1 hl1 => ?_)
        have e1 := hl1.length_eq
        refine Ok.bind (Ok.mono (P := fun l => l.Perm l0) (Ok.ite (fun h => ?_) fun _ => ⟨_, rfl, hl1⟩) fun l2 hl2 => ?_)
        · simp only [Bool.and_eq_true, decide_eq_true_eq] at h
          exact Ok.bind ((symMerge_perm fu (by omega) (hok.perm hl1) ha (by omega) (by omega) (by omega) (by omega)).mono fun l h => ⟨l, rfl, h.trans hl1⟩)
        have e2 := hl2.length_eq
        refine Ok.bind (Ok.mono (P := fun l => l.Perm l0) (Ok.ite (fun h => ?_) fun _ => ⟨_, rfl, hl2⟩) fun l3 hl3 => ⟨_, rfl, hl3⟩)
        simp only [Bool.and_eq_true, decide_eq_true_eq] at h
        exact Ok.bind ((symMerge_perm fu (by omega) (hok.perm hl2) (by omega) (by omega) (by omega) (by omega) (by omega)).mono fun l h => ⟨l, rfl, h.trans hl2⟩)
/-- The stable sort. -/
theorem stable_ok {fu : Nat} {l0 : List simulate_Event} (hfu : 1000 ≤ fu) (hlen : l0.length ≤ 1000) (hok : EvA c.l l0) (hpre : l0.Pairwise Pr0) :
    Ok (slices_SortStableFunc_simulateEvent_o_write_c1_p fu l0 c) fun l => l.Perm l0 ∧ (l0.length ≤ 20 → l.Pairwise (Wo c.l)) := by
  unfold slices_SortStableFunc_simulateEvent_o_write_c1_p slices_stableCmpFunc_simulateEvent_o_write_c1_p
  refine Ok.bind (Ok.mono (P := fun l => l.Perm l0 ∧ (l0.length ≤ 20 → l.Pairwise (Wo c.l))) ?_ fun l h => ⟨l, rfl, h⟩)
  refine Ok.whl (fun q => 0 ≤ q.1 ∧ q.1 + 20 = q.2.1 ∧ q.1 ≤ l0.length ∧ q.2.2.Perm l0 ∧ (q.1 = 0 → q.2.2 = l0) ∧ (l0.length ≤ 20 → q.1 ≠ 0 → q.2.2.Pairwise (Wo c.l) ∧ l0.length = 20 ∧ q.1 = 20))
    (fun q => 0 ≤ q.1 ∧ q.1 ≤ l0.length ∧ q.2.2.Perm l0 ∧ (q.1 = 0 → q.2.2 = l0) ∧ (l0.length ≤ 20 → q.1 ≠ 0 → q.2.2.Pairwise (Wo c.l) ∧ l0.length = 20 ∧ q.1 = 20)) (fun _ => False) (fun q => (2000 - q.1).toNat)
    ⟨Int.le_refl _, rfl, by simp only; omega, .refl _, fun _ => rfl, fun _ h => absurd rfl h⟩ ?_ (fun r hr => hr.elim) ?_
  · rintro ⟨a, b, l⟩ ⟨h1, h2, h3, hp, h4, h5⟩
    simp only at h1 h2 h3 hp h4 h5
    simp only [un2, un3]
    have hl := hp.length_eq
    refine Ok.ite (fun hlt => ?_) fun hlt => ⟨_, rfl, h1, h3, hp, h4, h5⟩
    have hlt := dec_t hlt
    subst h2
    rw [wrap_id (n := a + 20 + 20) (by omega) (by omega)]
    have hs : l0.length ≤ 20 → Ok (slices_insertionSortCmpFunc_simulateEvent_o_write_c1_p l a (a + 20) c) fun l' => l'.Perm l0 ∧ l'.Pairwise (Wo c.l) := fun h => by
      have e : a = 0 := by omega
      subst e
      rw [h4 rfl]
      exact insertion_ok hlen hok hpre (by omega)
    have hin : Ok (slices_insertionSortCmpFunc_simulateEvent_o_write_c1_p l a (a + 20) c) fun l' => l'.Perm l0 ∧ (l0.length ≤ 20 → l'.Pairwise (Wo c.l)) := by
      by_cases h : l0.length ≤ 20
      · exact (hs h).mono fun l' h' => ⟨h'.1, fun _ => h'.2⟩
      · exact (insertion_perm (by omega) (hok.perm hp) h1 (by omega) (by omega)).mono fun l' h' => ⟨h'.trans hp, fun hh => absurd hh h⟩
    refine Ok.bind (hin.mono fun l' h' => ⟨_, rfl, ⟨by simp only; omega, rfl, by simp only; omega, h'.1, fun e => by simp only at e; omega, fun hh _ => ⟨h'.2 hh, by omega, by simp only; omega⟩⟩, by simp only; omega⟩)
  · rintro ⟨a, b, l⟩ ⟨h1, h3, hp, h4, h5⟩
    simp only at h1 h3 hp h4 h5
    have hl := hp.length_eq
    simp only [un3]
    have hin : Ok (slices_insertionSortCmpFunc_simulateEvent_o_write_c1_p l a (l0.length : Int) c) fun l' => l'.Perm l0 ∧ (l0.length ≤ 20 → l'.Pairwise (Wo c.l)) := by
      by_cases h : l0.length ≤ 20
      · by_cases e : a = 0
        · subst e
          rw [h4 rfl]
          exact (insertion_ok hlen hok hpre rfl).mono fun l' h' => ⟨h'.1, fun _ => h'.2⟩
        · obtain ⟨g1, g2, g3⟩ := h5 h e
          unfold slices_insertionSortCmpFunc_simulateEvent_o_write_c1_p
          refine Ok.whl (fun q => 20 < q.1 ∧ q.2 = l) (fun q => q.2 = l) (fun _ => False) (fun q => 0) ⟨by simp only; rw [wrap_id (by omega) (by omega)]; omega, rfl⟩ ?_ (fun r hr => hr.elim) fun q hq => ⟨q.2, rfl, by rw [hq]; exact hp, fun _ => by rw [hq]; exact g1⟩
          rintro ⟨i, l'⟩ ⟨k1, k2⟩
          simp only at k1 k2
          exact Ok.ite (fun hlt => by have := dec_t hlt; omega) fun _ => ⟨_, rfl, k2⟩
      · exact (insertion_perm (by omega) (hok.perm hp) h1 (by omega) (by omega)).mono fun l' h' => ⟨h'.trans hp, fun hh => absurd hh h⟩
    refine Ok.bind (hin.mono fun l1 hl1 => ?_)
    refine Ok.whl (fun q => 20 ≤ q.1 ∧ q.1 ≤ 2000 ∧ q.2.Perm l0 ∧ (l0.length ≤ 20 → q.2.Pairwise (Wo c.l))) (fun q => q.2.Perm l0 ∧ (l0.length ≤ 20 → q.2.Pairwise (Wo c.l))) (fun _ => False) (fun q => (2000 - q.1).toNat)
      ⟨Int.le_refl _, by simp, hl1⟩ ?_ (fun r hr => hr.elim) fun q hq => ⟨q.2, rfl, hq⟩
    rintro ⟨z, l2⟩ ⟨g1, g2, g3⟩
    simp only at g1 g2 g3
    simp only [un2, un3]
    refine Ok.ite (fun hlt => ?_) fun hlt => ⟨_, rfl, g3⟩
    have hlt := dec_t hlt
    have hbig : ¬ l0.length ≤ 20 := by omega
    rw [wrap_id (n := 2 * z) (by omega) (by omega)]
    refine Ok.whl (fun q => 0 ≤ q.1 ∧ q.1 + 2 * z = q.2.1 ∧ q.1 ≤ l0.length ∧ q.2.2.Perm l0) (fun q => 0 ≤ q.1 ∧ q.1 ≤ l0.length ∧ l0.length < q.1 + 2 * z ∧ q.2.2.Perm l0) (fun _ => False) (fun q => (2000 - q.1).toNat)
      ⟨Int.le_refl _, by simp, by simp only; omega, g3.1⟩ ?_ (fun r hr => hr.elim) ?_
    · rintro ⟨a, b, l⟩ ⟨h1, h2, h3, hp⟩
      simp only at h1 h2 h3 hp
      simp only [un2, un3]
      have hl := hp.length_eq
      subst h2
      refine Ok.ite (fun hlt => ?_) fun hlt => ⟨_, rfl, h1, h3, by have := dec_f hlt; simp only; omega, hp⟩
      have hlt := dec_t hlt
      rw [wrap_id (n := a + z) (by omega) (by omega), wrap_id (n := a + 2 * z + 2 * z) (by omega) (by omega)]
      exact Ok.bind ((symMerge_perm fu (by omega) (hok.perm hp) h1 (by omega) (by omega) (by omega) (by omega)).mono fun l' h' => ⟨_, rfl, ⟨by simp only; omega, rfl, by simp only; omega, h'.trans hp⟩, by simp only; omega⟩)
    · rintro ⟨a, b, l⟩ ⟨h1, h2, h3, hp⟩
      simp only at h1 h2 h3 hp
      have hl := hp.length_eq
      simp only [un3]
      rw [wrap_id (n := a + z) (by omega) (by omega), wrap_id (n := z * 2) (by omega) (by omega)]
      refine Ok.bind (Ok.mono (P := fun l => l.Perm l0) (Ok.ite (fun h => ?_) fun _ => ⟨_, rfl, hp⟩) fun l' hl' => ⟨_, rfl, ⟨by simp only; omega, by simp only; omega, hl', fun h => absurd h hbig⟩, by simp only; omega⟩)
      have h := dec_t h
      exact Ok.bind ((symMerge_perm fu (by omega) (hok.perm hp) h1 (by omega) (by omega) (by omega) (by omega)).mono fun l' h' => ⟨_, rfl, h'.trans hp⟩)
end
end Go.Pw
/-
  Simulation: the events in order, and the state behind a tick's events.
-/
namespace Go.Pw
/-! ### loops that append -/
theorem flatMap_le {α β : Type} {f : α → List β} {k : Nat} : ∀ {l : List α}, (∀ x ∈ l, (f x).length ≤ k) → (l.flatMap f).length ≤ l.length * k
  | [], _ => by simp
  | x :: l, h => by
    have h1 := h x (by simp)
    have h2 := flatMap_le (l := l) fun y hy => h y (List.mem_cons_of_mem _ hy)
    rw [List.flatMap_cons, List.length_append, List.length_cons, Nat.succ_mul]
    omega
theorem forApp {α β : Type} {xs : List α} {g : α → List β} {B : Nat → List β → Option (List β)} {base : List β} (k : Nat) (hk : ∀ x ∈ xs, (g x).length ≤ k)
    (h : ∀ (i : Nat) (x : α) (out : List β), xs[i]? = some x → out.length ≤ base.length + xs.length * k → B i out = some (out ++ g x)) : forS B xs.length 0 base = some (base ++ xs.flatMap g) := by
  refine Ok.eq (Ok.forS (fun j out => out = base ++ (xs.take j).flatMap g) (by simp) ?_ fun s hs => by rw [hs, List.take_length])
  rintro j out hj rfl
  have h1 : ((xs.take j).flatMap g).length ≤ (xs.take j).length * k := flatMap_le fun x hx => hk x (List.mem_of_mem_take hx)
  have h2 : (xs.take j).length * k ≤ xs.length * k := Nat.mul_le_mul_right _ (by rw [List.length_take]; omega)
  refine ⟨_, h j xs[j] _ (List.getElem?_eq_getElem hj) (by rw [List.length_append]; omega), ?_⟩
  rw [take_snoc hj, List.flatMap_append, List.append_assoc]
  simp
theorem forAppN {β : Type} {n : Nat} {g : Nat → List β} {B : Nat → List β → Option (List β)} {base : List β} (k : Nat) (hk : ∀ i, i < n → (g i).length ≤ k)
    (h : ∀ (i : Nat) (out : List β), i < n → out.length ≤ base.length + n * k → B i out = some (out ++ g i)) : forS B n 0 base = some (base ++ (List.range n).flatMap g) := by
  have := forApp (xs := List.range n) (g := g) (B := B) (base := base) k (fun x hx => hk x (by simpa using hx)) (fun i x out hx ho => by
    obtain ⟨hi, rfl⟩ := List.getElem?_eq_some_iff.1 hx
    simp only [List.length_range] at hi ho
    simp only [List.getElem_range]
    exact h i out hi ho)
  rwa [List.length_range] at this
/-! ### the events -/
def evX (t : Temporal) (L : List Launch) (x : Nat × Bool) : simulate_Event := ⟨tmH t L x, (x.1 : Int), x.2⟩
def evE (t : Temporal) (L : List Launch) (a : Int) (e : Bool) : List (Nat × Bool) := ((List.range L.length).filter fun i => decide (tmH t L (i, e) = a)).map fun i => (i, e)
def evI (t : Temporal) (L : List Launch) (a : Int) : List (Nat × Bool) := evE t L a true ++ evE t L a false
def evT (t : Temporal) (L : List Launch) (a : Int) : List simulate_Event := (evI t L a).map (evX t L)
def unE (e : simulate_Event) : Nat × Bool := (e.Launch.toNat, e.End)
theorem unE_ev (t : Temporal) (L : List Launch) (x : Nat × Bool) : unE (evX t L x) = x := by simp [unE, evX]
section
variable {t : Temporal} {L : List Launch} {a : Int}
theorem mem_evE {e : Bool} {x : Nat × Bool} : x ∈ evE t L a e ↔ x.1 < L.length ∧ tmH t L x = a ∧ x.2 = e := by
  unfold evE
  rw [List.mem_map]
  constructor
  · rintro ⟨i, hi, rfl⟩
    simp only [List.mem_filter, List.mem_range, decide_eq_true_eq] at hi
    exact ⟨hi.1, hi.2, rfl⟩
  · rintro ⟨h1, h2, rfl⟩
    exact ⟨x.1, by simp [h1, h2], rfl⟩
theorem mem_evI {x : Nat × Bool} : x ∈ evI t L a ↔ x.1 < L.length ∧ tmH t L x = a := by
  unfold evI
  rw [List.mem_append, mem_evE, mem_evE]
  constructor
  · rintro (⟨h1, h2, _⟩ | ⟨h1, h2, _⟩) <;> exact ⟨h1, h2⟩
  · rintro ⟨h1, h2⟩
    cases h : x.2
    · exact .inr ⟨h1, h2, rfl⟩
    · exact .inl ⟨h1, h2, rfl⟩
theorem evE_len (e : Bool) : (evE t L a e).length ≤ L.length := by
  unfold evE
  rw [List.length_map]
  have := List.length_filter_le (fun i => decide (tmH t L (i, e) = a)) (List.range L.length)
  simpa using this
theorem evI_len : (evI t L a).length ≤ 2 * L.length := by
  unfold evI
  rw [List.length_append]
  have := evE_len (t := t) (L := L) (a := a) true
  have := evE_len (t := t) (L := L) (a := a) false
  omega
/-- The order of what happens at one time. -/
def Od (x y : Nat × Bool) : Prop := (x.2 = true ∧ y.2 = false) ∨ x.2 = y.2 ∧ x.1 < y.1
theorem evI_od : (evI t L a).Pairwise Od := by
  have h : ∀ e, (evE t L a e).Pairwise Od := fun e => by
    unfold evE
    rw [List.pairwise_map]
    exact (List.pairwise_lt_range.filter _).imp fun h => .inr ⟨rfl, h⟩
  refine List.pairwise_append.2 ⟨h true, h false, fun x hx y hy => ?_⟩
  exact .inl ⟨(mem_evE.1 hx).2.2, (mem_evE.1 hy).2.2⟩
theorem Od.irr {x : Nat × Bool} (h : Od x x) : False := by
  rcases h with h | h
  · rw [h.1] at h; simp at h
  · omega
theorem evI_nodup : (evI t L a).Nodup := evI_od.imp fun h e => by subst e; exact h.irr
/-! ### the canonical order -/
theorem mem_cnJ {e : Bool} {j : Nat} {x : Nat × Bool} : x ∈ cnJ t L a e j ↔ x.1 < L.length ∧ tmH t L x = a ∧ x.2 = e ∧ (lau L x.1).Job = (j : Int) := by
  unfold cnJ
  rw [List.mem_map]
  constructor
  · rintro ⟨i, hi, rfl⟩
    simp only [List.mem_filter, List.mem_range, decide_eq_true_eq] at hi
    exact ⟨hi.1, hi.2.2, rfl, hi.2.1⟩
  · rintro ⟨h1, h2, rfl, h3⟩
    exact ⟨x.1, by simp [h1, h2, h3], rfl⟩
theorem mem_cnE (hA : Acc t L) {e : Bool} {x : Nat × Bool} : x ∈ cnE t L a e ↔ x.1 < L.length ∧ tmH t L x = a ∧ x.2 = e := by
  unfold cnE
  rw [List.mem_flatMap]
  constructor
  · rintro ⟨j, _, hx⟩
    have := mem_cnJ.1 hx
    exact ⟨this.1, this.2.1, this.2.2.1⟩
  · rintro ⟨h1, h2, h3⟩
    have hk := hA.ok _ (lau_mem h1)
    have := hk.j0; have := hk.j1
    exact ⟨(lau L x.1).Job.toNat, by simp; omega, mem_cnJ.2 ⟨h1, h2, h3, by omega⟩⟩
theorem mem_cn (hA : Acc t L) {x : Nat × Bool} : x ∈ cn t L a ↔ x.1 < L.length ∧ tmH t L x = a := by
  unfold cn
  rw [List.mem_append, mem_cnE hA, mem_cnE hA]
  constructor
  · rintro (⟨h1, h2, _⟩ | ⟨h1, h2, _⟩) <;> exact ⟨h1, h2⟩
  · rintro ⟨h1, h2⟩
    cases h : x.2
    · exact .inr ⟨h1, h2, rfl⟩
    · exact .inl ⟨h1, h2, rfl⟩
def WoX (L : List Launch) (x y : Nat × Bool) : Prop := (x.2 = true ∧ y.2 = false) ∨ x.2 = y.2 ∧ ((lau L x.1).Job < (lau L y.1).Job ∨ (lau L x.1).Job = (lau L y.1).Job ∧ x.1 < y.1)
theorem WoX.irr {x : Nat × Bool} (h : WoX L x x) : False := by
  rcases h with h | h
  · rw [h.1] at h; simp at h
  · omega
theorem WoX.asy {x y : Nat × Bool} (h : WoX L x y) (h' : WoX L y x) : False := by
  unfold WoX at h h'
  rcases h with h | h <;> rcases h' with h' | h'
  · rw [h.1] at h'; simp at h'
  · rw [h.1, h.2] at h'; simp at h'
  · rw [h'.1, h'.2] at h; simp at h
  · omega
theorem Wo_iff {x y : Nat × Bool} : Wo L (evX t L x) (evX t L y) ↔ WoX L x y := by
  unfold Wo WoX rkE jobE evX
  simp only [Int.toNat_natCast]
  cases x.2 <;> cases y.2 <;> simp
theorem cn_wo : (cn t L a).Pairwise (WoX L) := by
  have hJ : ∀ e j, (cnJ t L a e j).Pairwise (WoX L) := fun e j => by
    unfold cnJ
    rw [List.pairwise_map]
    refine List.Pairwise.imp_of_mem (R := fun a b : Nat => a < b) (fun {i k} hi hk h => ?_) (List.pairwise_lt_range.filter _)
    simp only [List.mem_filter, decide_eq_true_eq] at hi hk
    exact .inr ⟨rfl, .inr ⟨by rw [hi.2.1, hk.2.1], h⟩⟩
  have hE : ∀ e, (cnE t L a e).Pairwise (WoX L) := fun e => by
    unfold cnE
    refine List.pairwise_flatMap.2 ⟨fun j _ => hJ e j, List.pairwise_lt_range.imp fun {i k} hik x hx y hy => ?_⟩
    have h1 := mem_cnJ.1 hx
    have h2 := mem_cnJ.1 hy
    exact .inr ⟨by rw [h1.2.2.1, h2.2.2.1], .inl (by rw [h1.2.2.2, h2.2.2.2]; omega)⟩
  have hm : ∀ e x, x ∈ cnE t L a e → x.2 = e := fun e x hx => by
    unfold cnE at hx
    obtain ⟨j, _, h⟩ := List.mem_flatMap.1 hx
    exact (mem_cnJ.1 h).2.2.1
  exact List.pairwise_append.2 ⟨hE true, hE false, fun x hx y hy => .inl ⟨hm _ _ hx, hm _ _ hy⟩⟩
theorem cn_nodup : (cn t L a).Nodup := cn_wo.imp fun h e => by subst e; exact h.irr
theorem cn_perm (hA : Acc t L) : (cn t L a).Perm (evI t L a) := (List.perm_ext_iff_of_nodup cn_nodup evI_nodup).2 fun x => by rw [mem_cn hA, mem_evI]
/-! ### what writing does -/
theorem setF_get : ∀ (fs : List Fact) (s : List Int) (v : Nat), (∀ f ∈ fs, 0 ≤ f.Var) → v < s.length → (∃ f ∈ fs, f.Var = (v : Int) ∧ (setF fs s)[v]? = some f.Val) ∨ ((∀ f ∈ fs, f.Var ≠ (v : Int)) ∧ (setF fs s)[v]? = s[v]?)
  | [], s, v, _, _ => .inr ⟨by simp, rfl⟩
  | f :: fs, s, v, h, hv => by
    have e : setF (f :: fs) s = setF fs (s.set f.Var.toNat f.Val) := rfl
    rw [e]
    have h0 := h f (by simp)
    rcases setF_get fs (s.set f.Var.toNat f.Val) v (fun g hg => h g (List.mem_cons_of_mem _ hg)) (by simpa using hv) with ⟨g, g1, g2⟩ | ⟨g1, g2⟩
    · exact .inl ⟨g, List.mem_cons_of_mem _ g1, g2⟩
    · by_cases c : f.Var = (v : Int)
      · refine .inl ⟨f, by simp, c, ?_⟩
        have : f.Var.toNat = v := by omega
        rw [g2, this, List.getElem?_set_self hv]
      · refine .inr ⟨fun x hx => ?_, ?_⟩
        · rcases List.mem_cons.1 hx with rfl | hx
          · exact c
          · exact g1 x hx
        · rw [g2, List.getElem?_set_ne (by omega)]
theorem wrAll_get : ∀ (xs : List (Nat × Bool)) (s : List Int) (v : Nat), (∀ x ∈ xs, ∀ f ∈ wrX t L x, 0 ≤ f.Var) → v < s.length → (∃ x ∈ xs, ∃ f ∈ wrX t L x, f.Var = (v : Int) ∧ (wrAll t L xs s)[v]? = some f.Val) ∨ ((∀ x ∈ xs, ∀ f ∈ wrX t L x, f.Var ≠ (v : Int)) ∧ (wrAll t L xs s)[v]? = s[v]?)
  | [], s, v, _, _ => .inr ⟨by simp, rfl⟩
  | x :: xs, s, v, h, hv => by
    have e : wrAll t L (x :: xs) s = wrAll t L xs (setF (wrX t L x) s) := rfl
    rw [e]
    rcases wrAll_get xs (setF (wrX t L x) s) v (fun y hy => h y (List.mem_cons_of_mem _ hy)) (by rw [setF_len]; exact hv) with ⟨y, g1, g2⟩ | ⟨g1, g2⟩
    · exact .inl ⟨y, List.mem_cons_of_mem _ g1, g2⟩
    · rcases setF_get (wrX t L x) s v (h x (by simp)) hv with ⟨f, k1, k2, k3⟩ | ⟨k1, k2⟩
      · exact .inl ⟨x, by simp, f, k1, k2, g2.trans k3⟩
      · refine .inr ⟨fun y hy => ?_, g2.trans k2⟩
        rcases List.mem_cons.1 hy with rfl | hy
        · exact k1
        · exact g1 y hy
theorem wrAll_aft (hA : Acc t L) {xs : List (Nat × Bool)} (hx : ∀ x, x ∈ xs ↔ x.1 < L.length ∧ tmH t L x = a) {s : List Int} (hs : s.length = t.Vars.length) : AftOK t L a s (wrAll t L xs s) := by
  refine ⟨wrAll_len _ _ _ _, fun v hv => ?_⟩
  rcases wrAll_get (t := t) (L := L) xs s v (fun x hx' f hf => (wrX_rng hA ((hx x).1 hx').1 hs f hf).1) hv with ⟨x, h1, f, h2, h3, h4⟩ | ⟨h1, h2⟩
  · exact .inl ⟨x, ((hx x).1 h1).1, ((hx x).1 h1).2, f, h2, h3, h4⟩
  · exact .inr ⟨fun x g1 g2 => h1 x ((hx x).2 ⟨g1, g2⟩), h2⟩
theorem aftX_aft (hA : Acc t L) {s : List Int} (hs : s.length = t.Vars.length) : AftOK t L a s (aftX t L a s) := wrAll_aft hA (fun x => mem_cn hA) hs
theorem aftX_len (s : List Int) : (aftX t L a s).length = s.length := wrAll_len _ _ _ _
theorem hap_eq (j : Job) (e : Bool) : simulate_happening_t j e = (rdH j e, wrH j e) := by
  unfold simulate_happening_t rdH wrH; cases e <;> rfl
theorem runjob_ok (hA : Acc t L) {o : simulate_Report} {x : Nat × Bool} (hx : x.1 < L.length) : simulate_run_job_p ⟨t, L, o⟩ (evX t L x) = some (jH t L x) := by
  unfold simulate_run_job_p evX
  simp only
  rw [idx_nat, lau_get hx, Option.bind_some, jb_idx (hA.ok _ (lau_mem hx))]
  rfl
theorem write_ok {fu : Nat} (hfu : 1000 ≤ fu) (hA : Acc t L) (hn : L.length ≤ 40) {o : simulate_Report} {s : List Int} (hs : s.length = t.Vars.length) :
    Ok (simulate_run_write_p fu ⟨t, L, o⟩ s (evT t L a)) fun s' => AftOK t L a s s' ∧ ((evT t L a).length ≤ 20 → s' = aftX t L a s) := by
  have hlen : (evT t L a).length ≤ 80 := by
    unfold evT; rw [List.length_map]; have := evI_len (t := t) (L := L) (a := a); omega
  have hEv : EvA L (evT t L a) := fun e he => by
    obtain ⟨x, hx, rfl⟩ := List.mem_map.1 he
    have := (mem_evI.1 hx).1
    exact ⟨by simp [evX], by simp [evX]; exact this⟩
  have hpre : (evT t L a).Pairwise Pr0 := by
    unfold evT
    rw [List.pairwise_map]
    refine evI_od.imp fun {x y} h hr => ?_
    rcases h with h | h
    · simp [rkE, evX, h.1, h.2] at hr
    · simp only [evX]; omega
  unfold simulate_run_write_p slices_Clone_simulateEvent_p slices_Clone_int_p
  refine Ok.bind (Ok.step (app_ok (by simp; omega)) ⟨_, rfl, ?_⟩)
  rw [List.nil_append]
  refine Ok.bind ((stable_ok (c := ⟨t, L, o⟩) hfu (by omega) hEv hpre).mono fun l hl => ?_)
  obtain ⟨hp, hw⟩ := hl
  refine Ok.bind (Ok.step (app_ok (by simp; have := hA.chk.vars; omega)) ⟨_, rfl, ?_⟩)
  rw [List.nil_append]
  -- what was sorted
  obtain ⟨xs, rfl, hxs⟩ : ∃ xs : List (Nat × Bool), l = xs.map (evX t L) ∧ xs.Perm (evI t L a) := by
    refine ⟨l.map unE, ?_, ?_⟩
    · rw [List.map_map]
      symm
      refine (List.map_congr_left (fun e he => ?_)).trans (List.map_id l)
      obtain ⟨x, _, rfl⟩ := List.mem_map.1 (hp.mem_iff.1 he)
      simp only [Function.comp, unE_ev, id]
    · have := hp.map unE
      unfold evT at this
      rw [List.map_map, show (unE ∘ evX t L) = id from funext fun x => unE_ev t L x, List.map_id] at this
      exact this
  have hmem : ∀ x, x ∈ xs ↔ x.1 < L.length ∧ tmH t L x = a := fun x => by rw [hxs.mem_iff, mem_evI]
  have hloop : forS (fun i100 => fun (l102 : (List Int)) => (idx (xs.map (evX t L)) (i100 : Int)).bind fun x101 =>
      (simulate_run_job_p ⟨t, L, o⟩ x101).bind <| fun (y102 : Job) =>
      (forS (fun i101 => fun (l103 : (List Int)) => (idx ((simulate_happening_t y102 x101.End).2) (i101 : Int)).bind fun x102 =>
      (idx l103 x102.Var).bind fun x103 =>
      (setI l103 x102.Var x102.Val).bind fun l104 =>
      some l104) (((simulate_happening_t y102 x101.End).2).length) 0 l102).bind (fun (l103 : (List Int)) => some l103)) ((xs.map (evX t L)).length) 0 s = some (wrAll t L xs s) := by
    rw [List.length_map]
    refine Ok.eq (Ok.forL (fun ys s' => s' = wrAll t L ys s) rfl ?_ fun s' h => h)
    rintro j ys x s1 hx rfl rfl
    have hm := (hmem x).1 (List.mem_of_getElem? hx)
    have hl1 : (wrAll t L (xs.take j) s).length = t.Vars.length := by rw [wrAll_len, hs]
    refine Ok.step (a := evX t L x) (by rw [idx_nat, List.getElem?_map, hx]; rfl) (Ok.step (runjob_ok hA hm.1) ?_)
    have e : (simulate_happening_t (jH t L x) (evX t L x).End).2 = wrX t L x := by rw [hap_eq]; rfl
    rw [e, facts_eq (wrX_rng hA hm.1 hl1)]
    refine ⟨_, rfl, ?_⟩
    rw [wrAll_append]; rfl
  rw [hloop]
  refine ⟨_, rfl, wrAll_aft hA hmem hs, fun h20 => ?_⟩
  have hw1 : xs.Pairwise (WoX L) := by
    have := hw h20
    rw [List.pairwise_map] at this
    exact this.imp fun h => Wo_iff.1 h
  have : xs = cn t L a := List.Perm.eq_of_pairwise (le := WoX L) (fun x y _ _ h h' => (h.asy h').elim) hw1 cn_wo (hxs.trans (cn_perm hA).symm)
  rw [this]; rfl
end
end Go.Pw
/-
  Simulation: the problems of a tick.
-/
namespace Go.Pw
/-! ### the least common variable -/
def LeastV (P : Int → Prop) (r : Int) : Prop := (r = -1 ∧ ∀ v, 0 ≤ v → ¬ P v) ∨ (0 ≤ r ∧ P r ∧ ∀ v, 0 ≤ v → P v → r ≤ v)
theorem LeastV.uniq {P : Int → Prop} {r s : Int} (h : LeastV P r) (h' : LeastV P s) : r = s := by
  rcases h with ⟨h1, h2⟩ | ⟨h1, h2, h3⟩ <;> rcases h' with ⟨g1, g2⟩ | ⟨g1, g2, g3⟩
  · omega
  · exact absurd g2 (h2 s g1)
  · exact absurd h2 (g2 r h1)
  · have := h3 s g1 g2; have := g3 r h1 h2; omega
theorem LeastV.congr {P Q : Int → Prop} {r : Int} (h : LeastV P r) (e : ∀ v, 0 ≤ v → (P v ↔ Q v)) : LeastV Q r := by
  rcases h with ⟨h1, h2⟩ | ⟨h1, h2, h3⟩
  · exact .inl ⟨h1, fun v h0 hq => h2 v h0 ((e v h0).2 hq)⟩
  · exact .inr ⟨h1, (e r h1).1 h2, fun v h0 hq => h3 v h0 ((e v h0).2 hq)⟩
theorem LeastV.or {P Q : Int → Prop} {r s : Int} (h : LeastV P r) (h' : LeastV Q s) : LeastV (fun v => P v ∨ Q v) (if 0 ≤ s ∧ (r < 0 ∨ s < r) then s else r) := by
  rcases h with ⟨h1, h2⟩ | ⟨h1, h2, h3⟩ <;> rcases h' with ⟨g1, g2⟩ | ⟨g1, g2, g3⟩
  · rw [if_neg (by omega)]
    exact .inl ⟨h1, fun v h0 h => h.elim (h2 v h0) (g2 v h0)⟩
  · rw [if_pos (by omega)]
    exact .inr ⟨g1, .inr g2, fun v h0 h => h.elim (fun h => absurd h (h2 v h0)) (g3 v h0)⟩
  · rw [if_neg (by omega)]
    exact .inr ⟨h1, .inl h2, fun v h0 h => h.elim (h3 v h0) (fun h => absurd h (g2 v h0))⟩
  · by_cases c : s < r
    · rw [if_pos (by omega)]
      exact .inr ⟨g1, .inr g2, fun v h0 h => h.elim (fun h => by have := h3 v h0 h; omega) (g3 v h0)⟩
    · rw [if_neg (by omega)]
      exact .inr ⟨h1, .inl h2, fun v h0 h => h.elim (h3 v h0) (fun h => by have := g3 v h0 h; omega)⟩
theorem LeastV.none : LeastV (fun _ => False) (-1) := .inl ⟨rfl, fun _ _ h => h⟩
theorem LeastV.one {w : Int} (h : 0 ≤ w) : LeastV (fun v => v = w) w := .inr ⟨h, rfl, fun v _ e => by omega⟩
theorem LeastV.ge {P : Int → Prop} {r : Int} (h : LeastV P r) : -1 ≤ r := by rcases h with h | h <;> omega
def hasV (l : List Fact) (v : Int) : Prop := ∃ f ∈ l, f.Var = v
theorem shared_ok {a b : List Fact} (ha : ∀ f ∈ a, 0 ≤ f.Var) : Ok (simulate_shared_p a b) (LeastV fun v => hasV a v ∧ hasV b v) := by
  unfold simulate_shared_p
  refine Ok.bind (Ok.forL (fun l out => LeastV (fun v => hasV l v ∧ hasV b v) out) (LeastV.none.congr fun v _ => ⟨fun h => h.elim, fun ⟨⟨f, h, _⟩, _⟩ => by simp at h⟩) ?_ fun s h => ⟨s, rfl, h⟩)
  intro j l x s hx hl hs
  refine Ok.step (by rw [idx_nat]; exact hx) (Ok.bind ?_)
  refine Ok.forL (fun m out => LeastV (fun v => (hasV l v ∧ hasV b v) ∨ (x.Var = v ∧ hasV m v)) out) (hs.congr fun v _ => ⟨.inl, fun h => h.elim id fun ⟨_, f, h, _⟩ => by simp at h⟩) ?_ fun s' h => ⟨s', rfl, h.congr fun v _ => ?_⟩
  · intro k m y s' hy hm hs'
    refine Ok.step (by rw [idx_nat]; exact hy) ?_
    by_cases c : x.Var = y.Var
    · have h1 := hs'.or (LeastV.one (w := x.Var) (ha x (List.mem_of_getElem? hx)))
      have e : (if ((decide (x.Var = y.Var)) && ((decide (s' < 0)) || decide (x.Var < s'))) then (some x.Var) else (some s')) = some (if 0 ≤ x.Var ∧ (s' < 0 ∨ x.Var < s') then x.Var else s') := by
        have := ha x (List.mem_of_getElem? hx)
        by_cases c2 : s' < 0 ∨ x.Var < s'
        · rw [if_pos (by simp [c]; rw [← c]; exact c2), if_pos ⟨this, c2⟩]
        · rw [if_neg (by simp [c]; rw [← c]; omega), if_neg (fun h => c2 h.2)]
      rw [e]
      refine ⟨_, rfl, h1.congr fun v _ => ?_⟩
      constructor
      · rintro ((h | ⟨e1, f, hf, e2⟩) | rfl)
        · exact .inl h
        · exact .inr ⟨e1, f, by simp [hf], e2⟩
        · exact .inr ⟨rfl, y, by simp, c.symm⟩
      · rintro (h | ⟨e1, f, hf, e2⟩)
        · exact .inl (.inl h)
        · exact .inr e1.symm
    · rw [if_neg (by simp [c])]
      refine ⟨_, rfl, hs'.congr fun v _ => ?_⟩
      constructor
      · rintro (h | ⟨e1, f, hf, e2⟩)
        · exact .inl h
        · exact .inr ⟨e1, f, by simp [hf], e2⟩
      · rintro (h | ⟨e1, f, hf, e2⟩)
        · exact .inl h
        · rcases List.mem_append.1 hf with hf | hf
          · exact .inr ⟨e1, f, hf, e2⟩
          · have : f = y := by simpa using hf
            subst this
            exact absurd (e1.trans e2.symm) c
  · constructor
    · rintro (⟨⟨f, hf, e⟩, h⟩ | ⟨rfl, h⟩)
      · exact ⟨⟨f, by simp [hf], e⟩, h⟩
      · exact ⟨⟨x, by simp, rfl⟩, h⟩
    · rintro ⟨⟨f, hf, e⟩, hb⟩
      rcases List.mem_append.1 hf with hf | hf
      · exact .inl ⟨⟨f, hf, e⟩, hb⟩
      · have : f = x := by simpa using hf
        subst this
        exact .inr ⟨e, hb⟩
def MeetP (a b : Job) (ea eb : Bool) (v : Int) : Prop := (hasV (wrH a ea) v ∧ hasV (wrH b eb) v) ∨ (hasV (wrH a ea) v ∧ hasV (rdH b eb) v) ∨ (hasV (wrH b eb) v ∧ hasV (rdH a ea) v)
noncomputable def meetV (a b : Job) (ea eb : Bool) : Int := (simulate_meeting_p a ea b eb).getD (-1)
theorem JobOK.wr0 {n : Nat} {j : Job} (h : JobOK n j) (e : Bool) : ∀ f ∈ wrH j e, 0 ≤ f.Var := fun f hf => by
  unfold wrH at hf; split at hf
  · exact (h.atEnd.rng f hf).1
  · exact (h.atStart.rng f hf).1
theorem meeting_ok {n : Nat} {a b : Job} (ha : JobOK n a) (hb : JobOK n b) (ea eb : Bool) : simulate_meeting_p a ea b eb = some (meetV a b ea eb) ∧ LeastV (MeetP a b ea eb) (meetV a b ea eb) := by
  have h : Ok (simulate_meeting_p a ea b eb) (LeastV (MeetP a b ea eb)) := by
    unfold simulate_meeting_p
    simp only [hap_eq]
    refine Ok.bind ((shared_ok (ha.wr0 ea)).mono fun y0 h0 => Ok.bind ((shared_ok (ha.wr0 ea)).mono fun y1 h1 => Ok.bind ((shared_ok (hb.wr0 eb)).mono fun y2 h2 => ?_)))
    have hs : ∀ y s : Int, -1 ≤ y → (if ((decide (0 ≤ y)) && ((decide (s < 0)) || decide (y < s))) then (some y) else (some s)) = some (if 0 ≤ y ∧ (s < 0 ∨ y < s) then y else s) := fun y s _ => by
      by_cases c : 0 ≤ y ∧ (s < 0 ∨ y < s)
      · rw [if_pos (by simpa using c), if_pos c]
      · rw [if_neg (by simpa using c), if_neg c]
    show Ok ((forS _ 3 0 (-1)).bind _) _
    have i0 : idx [y0, y1, y2] ((0 : Nat) : Int) = some y0 := rfl
    have i1 : idx [y0, y1, y2] ((0 + 1 : Nat) : Int) = some y1 := rfl
    have i2 : idx [y0, y1, y2] ((0 + 1 + 1 : Nat) : Int) = some y2 := rfl
    simp only [forS, i0, i1, i2, Option.bind_some, hs _ _ h0.ge, hs _ _ h1.ge, hs _ _ h2.ge]
    have g0 := LeastV.none.or h0
    have g1 := g0.or h1
    have g2 := g1.or h2
    refine ⟨_, rfl, g2.congr fun v _ => ?_⟩
    unfold MeetP
    constructor
    · rintro (((h | h) | h) | h)
      · exact h.elim
      · exact .inl h
      · exact .inr (.inl h)
      · exact .inr (.inr h)
    · rintro (h | h | h)
      · exact .inl (.inl (.inr h))
      · exact .inl (.inr h)
      · exact .inr h
  obtain ⟨r, h1, h2⟩ := h
  unfold meetV
  rw [h1]
  exact ⟨rfl, h2⟩
theorem meetV_int {n : Nat} {a b : Job} (ha : JobOK n a) (hb : JobOK n b) (ea eb : Bool) : 0 ≤ meetV a b ea eb ↔ intB a b ea eb = true := by
  have h := (meeting_ok ha hb ea eb).2
  have hi : intB a b ea eb = true ↔ ∃ v, 0 ≤ v ∧ MeetP a b ea eb v := by
    unfold intB MeetP hasV
    rw [Bool.or_eq_true, Bool.or_eq_true, meetB_iff, meetB_iff, meetB_iff]
    constructor
    · rintro ((⟨x, hx, y, hy, e⟩ | ⟨x, hx, y, hy, e⟩) | ⟨x, hx, y, hy, e⟩)
      · exact ⟨x.Var, ha.wr0 ea x hx, .inl ⟨⟨x, hx, rfl⟩, y, hy, e.symm⟩⟩
      · exact ⟨x.Var, ha.wr0 ea x hx, .inr (.inl ⟨⟨x, hx, rfl⟩, y, hy, e.symm⟩)⟩
      · exact ⟨y.Var, hb.wr0 eb y hy, .inr (.inr ⟨⟨y, hy, rfl⟩, x, hx, e⟩)⟩
    · rintro ⟨v, _, ⟨⟨x, hx, e⟩, y, hy, e'⟩ | ⟨⟨x, hx, e⟩, y, hy, e'⟩ | ⟨⟨y, hy, e'⟩, x, hx, e⟩⟩
      · exact .inl (.inl ⟨x, hx, y, hy, e.trans e'.symm⟩)
      · exact .inl (.inr ⟨x, hx, y, hy, e.trans e'.symm⟩)
      · exact .inr ⟨x, hx, y, hy, e.trans e'.symm⟩
  rw [hi]
  rcases h with ⟨h1, h2⟩ | ⟨h1, h2, _⟩
  · exact ⟨fun h => by omega, fun ⟨v, h0, h⟩ => absurd h (h2 v h0)⟩
  · exact ⟨fun _ => ⟨_, h1, h2⟩, fun _ => h1⟩
/-! ### what is missing -/
def lackF (l : List Fact) (s : List Int) : List Fact := l.filter fun f => !decide (idx s f.Var = some f.Val)
theorem lackF_len (l : List Fact) (s : List Int) : (lackF l s).length ≤ l.length := List.length_filter_le _ _
theorem filter_flat {α : Type} (p : α → Bool) (l : List α) : (l.flatMap fun x => if p x then [x] else []) = l.filter p := by
  induction l with
  | nil => rfl
  | cons x l ih => rw [List.flatMap_cons, ih, List.filter_cons]; cases p x <;> simp
theorem missing_ok {l : List Fact} (s : List Int) (hl : l.length ≤ 1000) : simulate_missing_p l s = some (lackF l s) := by
  unfold simulate_missing_p
  rw [forApp (g := fun x => if (!decide (idx s x.Var = some x.Val)) then [x] else []) 1 (fun x _ => by split <;> simp)]
  · rw [List.nil_append, filter_flat]; rfl
  · intro i x out hx ho
    simp only [List.length_nil] at ho
    rw [idx_nat, hx, Option.bind_some, Holds_ok, Option.bind_some]
    have e : holdsB [x] s = decide (idx s x.Var = some x.Val) := by simp [holdsB]
    rw [e]
    by_cases c : idx s x.Var = some x.Val
    · simp [c]
    · simp only [c, decide_false, Bool.not_false, if_true]
      rw [app_ok (by simp; omega)]; rfl
theorem holdsB_lack (l : List Fact) (s : List Int) : holdsB l s = true ↔ lackF l s = [] := by
  unfold holdsB lackF
  rw [List.filter_eq_nil_iff, List.all_eq_true]
  simp
/-! ### the lists of problems -/
def prsG {α β : Type} (f : α → α → List β) (l : List α) (i : Nat) : List β := match l[i]? with | some x => (l.drop (i + 1)).flatMap (f x) | none => []
theorem prsG_get {α β : Type} {f : α → α → List β} {l : List α} {i : Nat} {x : α} (h : l[i]? = some x) : prsG f l i = (l.drop (i + 1)).flatMap (f x) := by unfold prsG; rw [h]
def prsI {α β : Type} (f : α → α → List β) (l : List α) : List β := (List.range l.length).flatMap (prsG f l)
def ovB (t : Temporal) (L : List Launch) (a : Int) (i k : Nat) : Bool := decide ((lau L i).At = a ∧ k ≠ i ∧ (lau L i).Job = (lau L k).Job ∧ ((lau L k).At < a ∧ a ≤ endT t (lau L k) ∨ (lau L k).At = a ∧ k < i))
def ovL (t : Temporal) (L : List Launch) (a : Int) : List simulate_Problem := (List.range L.length).flatMap fun i => (List.range L.length).flatMap fun k => if ovB t L a i k then [⟨a, 18, (i : Int), (k : Int), -1⟩] else []
noncomputable def inP (t : Temporal) (L : List Launch) (a : Int) (x y : Nat × Bool) : List simulate_Problem := if 0 ≤ meetV (jH t L x) (jH t L y) x.2 y.2 then [⟨a, 17, (x.1 : Int), (y.1 : Int), meetV (jH t L x) (jH t L y) x.2 y.2⟩] else []
noncomputable def inL (t : Temporal) (L : List Launch) (a : Int) : List simulate_Problem := prsI (inP t L a) (evI t L a)
def preL (t : Temporal) (L : List Launch) (a : Int) (s : List Int) : List simulate_Problem := (evI t L a).flatMap fun x => (lackF (rdX t L x) s).flatMap fun f => [⟨a, 12, (x.1 : Int), -1, f.Var⟩]
def ovrL (t : Temporal) (L : List Launch) (a : Int) (s' : List Int) : List simulate_Problem := (List.range L.length).flatMap fun i => if (lau L i).At ≤ a ∧ a < endT t (lau L i) then (lackF (jb t (lau L i)).Over s').flatMap fun f => [⟨a, 16, (i : Int), -1, f.Var⟩] else []
noncomputable def probs (t : Temporal) (L : List Launch) (a : Int) (s s' : List Int) : List simulate_Problem := ovL t L a ++ inL t L a ++ preL t L a s ++ ovrL t L a s'
theorem ndShort : ∀ {n : Nat} {L : List Nat}, L.Nodup → (∀ x ∈ L, x < n) → L.length ≤ n
  | 0, L, _, h => by
    cases L with
    | nil => simp
    | cons a L => have := h a (by simp); omega
  | n + 1, L, hn, h => by
    have h1 : (L.filter fun x => decide (x ≠ n)).length ≤ n := ndShort (hn.sublist List.filter_sublist) (by
      intro x hx
      simp only [List.mem_filter, decide_eq_true_eq] at hx
      have := h x hx.1
      omega)
    have h2 : L.length ≤ (L.filter fun x => decide (x ≠ n)).length + 1 := by
      clear h h1
      induction L with
      | nil => simp
      | cons a L ih =>
        obtain ⟨ha, hL⟩ := List.nodup_cons.1 hn
        by_cases e : a = n
        · subst e
          have : (L.filter fun x => decide (x ≠ a)) = L := by
            apply List.filter_eq_self.2
            intro x hx
            simp only [decide_eq_true_eq]
            rintro rfl; exact ha hx
          have e2 : ((a :: L).filter fun x => decide (x ≠ a)) = L.filter fun x => decide (x ≠ a) := by rw [List.filter_cons]; simp
          rw [e2, this]; simp
        · have := ih hL
          simp only [List.filter_cons, ne_eq, e, not_false_eq_true, decide_true, if_true, List.length_cons] at *
          omega
    omega
theorem len64 {n : Nat} {l : List Fact} (h : FactsOK n l) (hn : n ≤ 64) : l.length ≤ 64 := by
  have h1 := ndShort (n := n) (L := l.map fun f => f.Var.toNat) (by
    rw [List.Nodup, List.pairwise_map]
    refine List.Pairwise.imp_of_mem (fun {x y} hx hy hxy e => ?_) h.asc
    have := h.rng x hx; have := h.rng y hy; omega) (by
    intro v hv
    obtain ⟨f, hf, rfl⟩ := List.mem_map.1 hv
    have := h.rng f hf; omega)
  rw [List.length_map] at h1
  omega
theorem prsG_len {α β : Type} {f : α → α → List β} (hf : ∀ x y, (f x y).length ≤ 1) (l : List α) (i : Nat) : (prsG f l i).length ≤ l.length := by
  unfold prsG
  split
  · rename_i x _
    have := flatMap_le (l := l.drop (i + 1)) (k := 1) (f := f x) fun y _ => hf x y
    rw [List.length_drop] at this
    omega
  · simp
theorem prsI_len {α β : Type} {f : α → α → List β} (hf : ∀ x y, (f x y).length ≤ 1) (l : List α) : (prsI f l).length ≤ l.length * l.length := by
  have h := flatMap_le (l := List.range l.length) (k := l.length) (f := prsG f l) fun i _ => prsG_len hf l i
  rw [List.length_range] at h
  exact h
section
variable {t : Temporal} {L : List Launch} {a : Int}
theorem ovL_len : (ovL t L a).length ≤ L.length * L.length := by
  have h := flatMap_le (l := List.range L.length) (k := L.length) (f := fun i => (List.range L.length).flatMap fun k => if ovB t L a i k then [(⟨a, 18, (i : Int), (k : Int), -1⟩ : simulate_Problem)] else []) fun i _ => by
    have := flatMap_le (l := List.range L.length) (k := 1) (f := fun k => if ovB t L a i k then [(⟨a, 18, (i : Int), (k : Int), -1⟩ : simulate_Problem)] else []) fun k _ => by split <;> simp
    simpa using this
  rw [List.length_range] at h
  exact h
theorem sq_le {n m : Nat} (h : n ≤ m) : n * n ≤ m * m := Nat.mul_le_mul h h
theorem inP_len (x y : Nat × Bool) : (inP t L a x y).length ≤ 1 := by unfold inP; split <;> simp
theorem inL_len (hn : L.length ≤ 40) : (inL t L a).length ≤ 6400 := by
  have h1 := prsI_len (inP_len (t := t) (L := L) (a := a)) (evI t L a)
  have h2 := evI_len (t := t) (L := L) (a := a)
  have := sq_le (n := (evI t L a).length) (m := 80) (by omega)
  unfold inL; omega
theorem one_len {α β : Type} (l : List α) (f : α → β) : (l.flatMap fun x => [f x]).length = l.length := by induction l with | nil => rfl | cons x l ih => simp [ih]
theorem preL_len (hA : Acc t L) (hn : L.length ≤ 40) {s : List Int} : (preL t L a s).length ≤ 5120 := by
  have h := flatMap_le (l := evI t L a) (k := 64) (f := fun x => (lackF (rdX t L x) s).flatMap fun f => [(⟨a, 12, (x.1 : Int), -1, f.Var⟩ : simulate_Problem)]) fun x hx => by
    rw [one_len]
    have := lackF_len (rdX t L x) s
    have := len64 (rdX_ok hA (mem_evI.1 hx).1) hA.chk.vars
    omega
  have h2 := evI_len (t := t) (L := L) (a := a)
  unfold preL; omega
theorem over_len (hA : Acc t L) {i : Nat} (hi : i < L.length) : (jb t (lau L i)).Over.length ≤ 64 := len64 (hA.chk.job _ (jb_mem (hA.ok _ (lau_mem hi)))).over hA.chk.vars
theorem ovrL_len (hA : Acc t L) (hn : L.length ≤ 40) {s : List Int} : (ovrL t L a s).length ≤ 2560 := by
  have h := flatMap_le (l := List.range L.length) (k := 64) (f := fun i => if (lau L i).At ≤ a ∧ a < endT t (lau L i) then (lackF (jb t (lau L i)).Over s).flatMap fun f => [(⟨a, 16, (i : Int), -1, f.Var⟩ : simulate_Problem)] else []) fun i hi => by
    split
    · rw [one_len]
      have := lackF_len (jb t (lau L i)).Over s
      have := over_len hA (i := i) (by simpa using hi)
      omega
    · simp
  rw [List.length_range] at h
  unfold ovrL; omega
theorem probs_len (hA : Acc t L) (hn : L.length ≤ 40) {s s' : List Int} : (probs t L a s s').length ≤ 20000 := by
  unfold probs
  rw [List.length_append, List.length_append, List.length_append]
  have h1 := ovL_len (t := t) (L := L) (a := a)
  have := sq_le hn
  have := inL_len (t := t) (a := a) hn
  have := preL_len (a := a) hA hn (s := s)
  have := ovrL_len (a := a) hA hn (s := s')
  omega
theorem runend_ok (hA : Acc t L) {o : simulate_Report} {i : Nat} (hi : i < L.length) : simulate_run_end_p ⟨t, L, o⟩ (i : Int) = some (endT t (lau L i)) := by
  have := end_ok hA.chk (hA.ok _ (lau_mem hi))
  unfold temporal_end_p at this
  unfold simulate_run_end_p
  rw [idx_nat, lau_get hi]
  exact this
theorem runend51_ok (hA : Acc t L) {o : simulate_Report} {i : Nat} (hi : i < L.length) : simulate_run_end_43_p ⟨t, L, o⟩ (i : Int) = some (endT t (lau L i)) := by
  have := runend_ok hA (o := o) hi
  unfold simulate_run_end_p at this
  unfold simulate_run_end_43_p
  exact this
theorem report_ok {t : Temporal} {L : List Launch} {o : simulate_Report} (h : o.Problems.length ≤ 1000000000) (a b c d e : Int) : simulate_run_report_p ⟨t, L, o⟩ a b c d e = some (o.Problems ++ [⟨a, b, c, d, e⟩]) := by
  unfold simulate_run_report_p
  rw [app_ok (by simp; omega)]; rfl
theorem overlapsR_ok (hA : Acc t L) (hn : L.length ≤ 40) {o : simulate_Report} (ho : o.Problems.length ≤ 100000000) : simulate_run_overlaps_p ⟨t, L, o⟩ a = some (o.Problems ++ ovL t L a) := by
  unfold simulate_run_overlaps_p
  simp only
  rw [forAppN (n := L.length) (base := o.Problems) (g := fun i => (List.range L.length).flatMap fun k => if ovB t L a i k then [(⟨a, 18, (i : Int), (k : Int), -1⟩ : simulate_Problem)] else []) L.length (fun i _ => by
    have := flatMap_le (l := List.range L.length) (k := 1) (f := fun k => if ovB t L a i k then [(⟨a, 18, (i : Int), (k : Int), -1⟩ : simulate_Problem)] else []) fun k _ => by split <;> simp
    simpa using this)]
  · rfl
  · intro i out hi hout
    have hsq := sq_le hn
    rw [idx_nat, lau_get hi, Option.bind_some]
    rw [forAppN (n := L.length) (base := out) (g := fun k => if ovB t L a i k then [(⟨a, 18, (i : Int), (k : Int), -1⟩ : simulate_Problem)] else []) 1 (fun k _ => by split <;> simp)]
    · rfl
    · intro k out2 hk hout2
      rw [idx_nat, lau_get hk, Option.bind_some]
      have e : (if decide ((lau L i).At = a) then (if !decide ((k : Int) = (i : Int)) then (if decide ((lau L i).Job = (lau L k).Job) then (if decide ((lau L k).At < a) then ((simulate_run_end_43_p (⟨t, L, (⟨o.Events, o.States, out2, o.Makespan⟩ : simulate_Report)⟩ : simulate_run) (k : Int)).bind <| fun (y100 : Int) =>
          if decide (a ≤ y100) then (some true)
          else (if decide ((lau L k).At = a) then (some (decide ((k : Int) < (i : Int))))
          else (some false)))
          else (if decide ((lau L k).At = a) then (some (decide ((k : Int) < (i : Int))))
          else (some false)))
          else (some false))
          else (some false))
          else (some false)) = some (ovB t L a i k) := by
        rw [runend51_ok hA hk]
        unfold ovB
        by_cases c1 : (lau L i).At = a
        · by_cases c2 : (k : Int) = (i : Int)
          · have : k = i := by omega
            simp [c1, this]
          · have c2' : k ≠ i := by omega
            by_cases c3 : (lau L i).Job = (lau L k).Job
            · have d3 : decide ((lau L i).Job = (lau L k).Job) = true := by simp [c3]
              by_cases c4 : (lau L k).At < a
              · by_cases c5 : a ≤ endT t (lau L k)
                · simp [c1, c2, c2', c3, c4, c5]
                · have : ¬ (lau L k).At = a := by omega
                  simp [c1, c2, c2', c3, c4, c5, this]
              · by_cases c6 : (lau L k).At = a
                · simp [c1, c2, c2', c3, c4, c6]
                · simp [c1, c2, c2', c3, c4, c6]
            · simp [c1, c2, c2', c3]
        · simp [c1]
      rw [e, Option.bind_some]
      by_cases c : ovB t L a i k
      · rw [if_pos c, report_ok (by simp only; omega)]
        simp [c]
      · rw [if_neg c]; simp [c]
theorem lack_loop {β : Type} {l : List Fact} {g : Fact → β} {B : Nat → List β → Option (List β)} {base : List β} (hl : l.length ≤ 64)
    (h : ∀ (i : Nat) (x : Fact) (out : List β), l[i]? = some x → out.length ≤ base.length + 64 → B i out = some (out ++ [g x])) : forS B l.length 0 base = some (base ++ l.flatMap fun x => [g x]) :=
  forApp 1 (fun _ _ => by simp) fun i x out hx ho => h i x out hx (by omega)
end
end Go.Pw
/-
  Simulation: a tick's problems and the error that the library finds there.
-/
namespace Go.Pw
theorem prsI_nil {α β : Type} {f : α → α → List β} {l : List α} : prsI f l = [] ↔ l.Pairwise fun x y => f x y = [] := by
  unfold prsI
  rw [List.flatMap_eq_nil_iff, List.pairwise_iff_getElem]
  constructor
  · intro h i j hi hj hij
    have h1 := h i (by simpa using hi)
    rw [prsG_get (List.getElem?_eq_getElem hi)] at h1
    simp only [List.flatMap_eq_nil_iff] at h1
    refine h1 l[j] ?_
    rw [List.mem_drop_iff_getElem]
    exact ⟨j - (i + 1), by omega, by congr 1; omega⟩
  · intro h i hi
    have hi' : i < l.length := by simpa using hi
    rw [prsG_get (List.getElem?_eq_getElem hi')]
    simp only [List.flatMap_eq_nil_iff]
    intro y hy
    rw [List.mem_drop_iff_getElem] at hy
    obtain ⟨j, hj, rfl⟩ := hy
    exact h i _ hi' (by omega) (by omega)
section
variable {t : Temporal} {L : List Launch} {a : Int} {s s' : List Int}
theorem ovL_nil (hA : Acc t L) : ovL t L a = [] ↔ NoOv t L a := by
  unfold ovL NoOv
  rw [List.flatMap_eq_nil_iff]
  have e : ∀ i k, (if ovB t L a i k then [(⟨a, 18, (i : Int), (k : Int), -1⟩ : simulate_Problem)] else []) = [] ↔ ovB t L a i k = false := fun i k => by cases ovB t L a i k <;> simp
  constructor
  · intro h i k hi hk hne h1 h2 ⟨h3, h4⟩
    have hb : ∀ i k, i < L.length → k < L.length → ovB t L a i k = false := fun i k hi hk => by
      have h1 := h i (by simpa using hi)
      rw [List.flatMap_eq_nil_iff] at h1
      exact (e i k).1 (h1 k (by simpa using hk))
    have n1 := hb i k hi hk
    have n2 := hb k i hk hi
    unfold ovB at n1 n2
    have n1 := dec_f n1
    have n2 := dec_f n2
    have g := endT_gt hA.chk (hA.ok _ (lau_mem hi))
    rcases Int.lt_or_eq_of_le h3 with h5 | h5
    · exact n1 ⟨h1, Ne.symm hne, h2, .inl ⟨h5, h4⟩⟩
    · rcases Nat.lt_or_gt_of_ne hne with h6 | h6
      · exact n2 ⟨h5, hne, h2.symm, .inr ⟨h1, h6⟩⟩
      · exact n1 ⟨h1, Ne.symm hne, h2, .inr ⟨h5, h6⟩⟩
  · intro h i hi
    rw [List.flatMap_eq_nil_iff]
    intro k hk
    rw [e]
    have hi : i < L.length := by simpa using hi
    have hk : k < L.length := by simpa using hk
    unfold ovB
    refine decide_eq_false fun ⟨h1, h2, h3, h4⟩ => h i k hi hk (Ne.symm h2) h1 h3 ?_
    have g := endT_gt hA.chk (hA.ok _ (lau_mem hk))
    rcases h4 with h4 | h4 <;> omega
theorem inP_nil (hA : Acc t L) {x y : Nat × Bool} (hx : x.1 < L.length) (hy : y.1 < L.length) : inP t L a x y = [] ↔ intX t L x y = false := by
  unfold inP
  have h := meetV_int (jH_ok hA hx) (jH_ok hA hy) x.2 y.2
  unfold intX
  by_cases c : 0 ≤ meetV (jH t L x) (jH t L y) x.2 y.2
  · rw [if_pos c, h.1 c]; simp
  · rw [if_neg c]
    have : intB (jH t L x) (jH t L y) x.2 y.2 ≠ true := fun e => c (h.2 e)
    simp [this]
theorem inL_nil (hA : Acc t L) : inL t L a = [] ↔ NoInt t L a := by
  unfold inL
  rw [prsI_nil]
  constructor
  · intro h x y hx hy tx ty hne
    obtain ⟨i, hi, ei⟩ := List.mem_iff_getElem.1 (mem_evI.2 ⟨hx, tx⟩)
    obtain ⟨j, hj, ej⟩ := List.mem_iff_getElem.1 (mem_evI.2 ⟨hy, ty⟩)
    have hp := List.pairwise_iff_getElem.1 h
    rcases Nat.lt_trichotomy i j with k | k | k
    · have := hp i j hi hj k
      rw [ei, ej] at this
      exact (inP_nil hA hx hy).1 this
    · subst k; exact absurd (ei.symm.trans ej) hne
    · have := hp j i hj hi k
      rw [ei, ej] at this
      rw [intX_comm]
      exact (inP_nil hA hy hx).1 this
  · intro h
    refine List.Pairwise.imp_of_mem (fun {x y} hx hy hne => ?_) (evI_nodup (t := t) (L := L) (a := a))
    have hx := mem_evI.1 hx
    have hy := mem_evI.1 hy
    exact (inP_nil hA hx.1 hy.1).2 (h x y hx.1 hy.1 hx.2 hy.2 hne)
theorem ones_nil {α β : Type} {l : List α} {f : α → β} : (l.flatMap fun x => [f x]) = [] ↔ l = [] := by cases l <;> simp
theorem preL_nil : preL t L a s = [] ↔ PreOK t L a s := by
  unfold preL PreOK
  rw [List.flatMap_eq_nil_iff]
  constructor
  · intro h x hx tx
    have := h x (mem_evI.2 ⟨hx, tx⟩)
    rw [ones_nil] at this
    exact (holdsB_lack _ _).2 this
  · intro h x hx
    have hx := mem_evI.1 hx
    rw [ones_nil]
    exact (holdsB_lack _ _).1 (h x hx.1 hx.2)
theorem ovrL_nil : ovrL t L a s' = [] ↔ OverOK t L a s' := by
  unfold ovrL OverOK
  rw [List.flatMap_eq_nil_iff]
  constructor
  · intro h i hi h1 h2
    have := h i (by simpa using hi)
    rw [if_pos ⟨h1, h2⟩, ones_nil] at this
    exact (holdsB_lack _ _).2 this
  · intro h i hi
    split
    · rename_i c
      rw [ones_nil]
      exact (holdsB_lack _ _).1 (h i (by simpa using hi) c.1 c.2)
    · rfl
theorem probs_nil (hA : Acc t L) : probs t L a s s' = [] ↔ NoOv t L a ∧ NoInt t L a ∧ PreOK t L a s ∧ OverOK t L a s' := by
  unfold probs
  rw [List.append_eq_nil_iff, List.append_eq_nil_iff, List.append_eq_nil_iff, ovL_nil hA, inL_nil hA, preL_nil, ovrL_nil]
  simp only [and_assoc]
theorem ovL_kind : ∀ p ∈ ovL t L a, p.Kind = 18 ∧ p.At = a := fun p hp => by
  unfold ovL at hp
  obtain ⟨i, _, hp⟩ := List.mem_flatMap.1 hp
  obtain ⟨k, _, hp⟩ := List.mem_flatMap.1 hp
  split at hp
  · rw [List.mem_singleton] at hp
    subst hp; exact ⟨rfl, rfl⟩
  · simp at hp
theorem prsI_mem {α β : Type} {f : α → α → List β} {l : List α} {p : β} (h : p ∈ prsI f l) : ∃ x ∈ l, ∃ y ∈ l, p ∈ f x y := by
  unfold prsI at h
  obtain ⟨i, hi, hp⟩ := List.mem_flatMap.1 h
  have hi' : i < l.length := by simpa using hi
  rw [prsG_get (List.getElem?_eq_getElem hi')] at hp
  obtain ⟨y, hy, hp⟩ := List.mem_flatMap.1 hp
  exact ⟨_, List.getElem_mem hi', y, List.mem_of_mem_drop hy, hp⟩
theorem inL_kind : ∀ p ∈ inL t L a, p.Kind = 17 ∧ p.At = a := fun p hp => by
  obtain ⟨x, _, y, _, hp⟩ := prsI_mem hp
  unfold inP at hp
  split at hp
  · rw [List.mem_singleton] at hp
    subst hp; exact ⟨rfl, rfl⟩
  · simp at hp
theorem preL_kind : ∀ p ∈ preL t L a s, p.Kind = 12 ∧ p.At = a := fun p hp => by
  unfold preL at hp
  obtain ⟨x, _, hp⟩ := List.mem_flatMap.1 hp
  obtain ⟨f, _, hp⟩ := List.mem_flatMap.1 hp
  rw [List.mem_singleton] at hp
  subst hp; exact ⟨rfl, rfl⟩
theorem ovrL_kind : ∀ p ∈ ovrL t L a s', p.Kind = 16 ∧ p.At = a := fun p hp => by
  unfold ovrL at hp
  obtain ⟨i, _, hp⟩ := List.mem_flatMap.1 hp
  split at hp
  · obtain ⟨f, _, hp⟩ := List.mem_flatMap.1 hp
    rw [List.mem_singleton] at hp
    subst hp; exact ⟨rfl, rfl⟩
  · simp at hp
/-- What a tick says, exactly. -/
def TickS (t : Temporal) (L : List Launch) (a : Int) (s : List Int) (r : List Int × Option Int) : Prop :=
  (r.2 = none ∧ NoOv t L a ∧ NoInt t L a ∧ PreOK t L a s ∧ r.1 = aftX t L a s ∧ OverOK t L a (aftX t L a s)) ∨ (r.2 = some 18 ∧ ¬ NoOv t L a) ∨ (r.2 = some 17 ∧ NoOv t L a ∧ ¬ NoInt t L a) ∨ (r.2 = some 12 ∧ NoOv t L a ∧ NoInt t L a ∧ ¬ PreOK t L a s) ∨ (r.2 = some 16 ∧ NoOv t L a ∧ NoInt t L a ∧ PreOK t L a s ∧ ¬ OverOK t L a (aftX t L a s))
theorem tick_s (hA : Acc t L) (hs : s.length = t.Vars.length) (a : Int) : Ok (temporal_tick_p t L a s (hapsAt t L a)) (TickS t L a s) := by
  unfold temporal_tick_p
  have hlen : (hapsAt t L a).length ≤ 8192 := by have := hapsAt_len t a L; have := hA.len; omega
  have hil : (ixA t L a).length = (hapsAt t L a).length := by rw [hapsAt_ix, List.length_map]
  obtain ⟨b, hb, hov⟩ := overlaps_ok hA a
  refine Ok.step hb (Ok.ite (fun h => ⟨_, rfl, .inr (.inl ⟨rfl, fun hn => by rw [hov.2 hn] at h; cases h⟩)⟩) fun h => ?_)
  have hno := hov.1 h
  refine Ok.ctl (fun i _ => ∀ (p q : Nat) (x y : Nat × Bool), p < i → q < p → (ixA t L a)[p]? = some x → (ixA t L a)[q]? = some y → intX t L x y = false) (fun r => r.2 = some 17 ∧ ¬ NoInt t L a) (fun p q x y h => by omega) ?_ (fun r hr => ⟨r, rfl, .inr (.inr (.inl ⟨hr.1, hno, hr.2⟩))⟩) fun _ hni => ?_
  · intro i _ hi hin
    refine Ok.must (by simp; omega) ?_
    rw [Int.toNat_natCast]
    have hi' : i < (ixA t L a).length := by omega
    have gx := List.getElem?_eq_getElem hi'
    refine Ok.ctl (fun k _ => ∀ (q : Nat) (y : Nat × Bool), q < k → (ixA t L a)[q]? = some y → intX t L (ixA t L a)[i] y = false) (fun r => r.2 = some 17 ∧ ¬ NoInt t L a) (fun q y h => by omega) ?_ (fun r hr => ⟨_, rfl, hr⟩) fun _ hk => ⟨_, rfl, fun p q x y h1 h2 h3 h4 => ?_⟩
    · intro k _ hk hkn
      have hk' : k < (ixA t L a).length := by omega
      have gy := List.getElem?_eq_getElem hk'
      have mx := mem_ixA.1 (List.getElem_mem hi')
      have my := mem_ixA.1 (List.getElem_mem hk')
      refine Ok.step (by rw [idx_nat]; exact ix_get gx) (Ok.step (by rw [idx_nat]; exact ix_get gy) (Ok.step (interfere_ok (jH_idx hA mx.1) (jH_idx hA my.1)) ?_))
      refine Ok.ite (fun h => ⟨_, rfl, rfl, fun hn => ?_⟩) fun h => ⟨_, rfl, fun q y h1 h2 => ?_⟩
      · have h2 := hn _ _ mx.1 my.1 mx.2 my.2 fun e => (List.pairwise_iff_getElem.1 (ixA_nodup t L a)) k i hk' hi' hk e.symm
        have h3 : intX t L (ixA t L a)[i] (ixA t L a)[k] = true := h
        rw [h2] at h3; cases h3
      · by_cases e : q = k
        · subst e; rw [gy] at h2; cases h2; exact h
        · exact hkn q y (by omega) h2
    · by_cases e : p = i
      · subst e; rw [gx] at h3; cases h3; exact hk q y h2 h4
      · exact hin p q x y (by omega) h2 h3 h4
  have hnI : NoInt t L a := by
    intro x y hx hy tx ty hne
    obtain ⟨p, hp, ep⟩ := List.mem_iff_getElem.1 (mem_ixA.2 ⟨hx, tx⟩)
    obtain ⟨q, hq, eq⟩ := List.mem_iff_getElem.1 (mem_ixA.2 ⟨hy, ty⟩)
    have gp : (ixA t L a)[p]? = some x := by rw [List.getElem?_eq_getElem hp, ep]
    have gq : (ixA t L a)[q]? = some y := by rw [List.getElem?_eq_getElem hq, eq]
    rcases Nat.lt_trichotomy p q with h | h | h
    · rw [intX_comm]; exact hni q p y x (by omega) h gq gp
    · subst h; exact absurd (ep.symm.trans eq) hne
    · exact hni p q x y (by omega) h gp gq
  refine Ok.ctl (fun i _ => ∀ (p : Nat) (x : Nat × Bool), p < i → (ixA t L a)[p]? = some x → holdsB (rdX t L x) s = true) (fun r => r.2 = some 12 ∧ ¬ PreOK t L a s) (fun p x h => by omega) ?_ (fun r hr => ⟨r, rfl, .inr (.inr (.inr (.inl ⟨hr.1, hno, hnI, hr.2⟩)))⟩) fun _ hpr => ?_
  · intro i _ hi hin
    have hi' : i < (ixA t L a).length := by omega
    have gx := List.getElem?_eq_getElem hi'
    have mx := mem_ixA.1 (List.getElem_mem hi')
    refine Ok.step (by rw [idx_nat]; exact ix_get gx) (Ok.step (reads_ok (jH_idx hA mx.1)) (Ok.step (Holds_ok _ _) ?_))
    refine Ok.ite (fun h => ⟨_, rfl, rfl, fun hn => ?_⟩) fun h => ⟨_, rfl, fun p x h1 h2 => ?_⟩
    · have h2 := hn _ mx.1 mx.2
      have h3 : holdsB (rdH (jH t L (ixA t L a)[i]) (hpOf L (ixA t L a)[i]).end_) s = true := h2
      rw [h3] at h; cases h
    · by_cases e : p = i
      · subst e; rw [gx] at h2; cases h2
        have h3 : holdsB (rdH (jH t L (ixA t L a)[p]) (hpOf L (ixA t L a)[p]).end_) s = true := by simpa using h
        exact h3
      · exact hin p x (by omega) h2
  have hpre : PreOK t L a s := by
    intro x hx tx
    obtain ⟨p, hp, ep⟩ := List.mem_iff_getElem.1 (mem_ixA.2 ⟨hx, tx⟩)
    exact hpr p x (by omega) (by rw [List.getElem?_eq_getElem hp, ep])
  refine Ok.step (after_eq hA hs a) ?_
  generalize he : aftX t L a s = s'
  refine Ok.ctl (fun j _ => ∀ i, i < j → i < L.length → (lau L i).At ≤ a → a < endT t (lau L i) → holdsB (jb t (lau L i)).Over s' = true) (fun r => r.2 = some 16 ∧ ¬ OverOK t L a s') (fun i h => by omega) ?_ (fun r hr => ⟨r, rfl, .inr (.inr (.inr (.inr ⟨hr.1, hno, hnI, hpre, by rw [he]; exact hr.2⟩)))⟩) fun _ hov => ⟨_, rfl, .inl ⟨rfl, hno, hnI, hpre, he.symm, by rw [he]; exact fun i hi => hov i hi hi⟩⟩
  intro j _ hj hin
  refine Ok.step (by rw [idx_nat]; exact lau_get hj) ?_
  have hok := hA.ok _ (lau_mem hj)
  have nx : ((lau L j).At ≤ a → a < endT t (lau L j) → holdsB (jb t (lau L j)).Over s' = true) → ∀ i, i < j + 1 → i < L.length → (lau L i).At ≤ a → a < endT t (lau L i) → holdsB (jb t (lau L i)).Over s' = true := fun h i h1 h2 => by
    by_cases e : i = j
    · subst e; exact h
    · exact hin i (by omega) h2
  by_cases c1 : (lau L j).At ≤ a
  · by_cases c2 : a < endT t (lau L j)
    · simp only [c1, c2, decide_true, if_true, end_ok hA.chk hok, jb_idx hok, Holds_ok, Option.bind_some]
      refine Ok.ite (fun h => ⟨_, rfl, rfl, fun hn => ?_⟩) fun h => ⟨_, rfl, nx fun _ _ => by simpa using h⟩
      rw [hn j hj c1 c2] at h; cases h
    · simp only [c1, c2, decide_true, decide_false, Bool.false_eq_true, if_true, if_false, end_ok hA.chk hok, Option.bind_some]
      exact ⟨_, rfl, nx fun _ h => absurd h c2⟩
  · simp only [c1, decide_false, Bool.false_eq_true, if_false, Option.bind_some]
    exact ⟨_, rfl, nx fun h => absurd h c1⟩
theorem head_kind {k : Int} {l m : List simulate_Problem} (h : ∀ p ∈ l, p.Kind = k) (hn : l ≠ []) : ∃ p q, l ++ m = p :: q ∧ p.Kind = k := by
  cases l with
  | nil => exact absurd rfl hn
  | cons p q => exact ⟨p, q ++ m, rfl, h p (by simp)⟩
/-- .. and the problems. -/
theorem TickS.probs (hA : Acc t L) {r : List Int × Option Int} (h : TickS t L a s r) : (r.2 = none ∧ r.1 = aftX t L a s ∧ probs t L a s (aftX t L a s) = []) ∨ ∃ z p q, r.2 = some z ∧ probs t L a s (aftX t L a s) = p :: q ∧ p.Kind = z ∧ (z = 18 ∨ z = 17 ∨ z = 12 ∨ z = 16) := by
  rcases h with ⟨h1, h2, h3, h4, h5, h6⟩ | ⟨h1, h2⟩ | ⟨h1, h2, h3⟩ | ⟨h1, h2, h3, h4⟩ | ⟨h1, h2, h3, h4, h6⟩
  · exact .inl ⟨h1, h5, (probs_nil hA).2 ⟨h2, h3, h4, h6⟩⟩
  · obtain ⟨p, q, e1, e2⟩ := head_kind (m := inL t L a ++ preL t L a s ++ ovrL t L a (aftX t L a s)) (fun p hp => (ovL_kind (t := t) (L := L) (a := a) p hp).1) (fun e => h2 ((ovL_nil hA).1 e))
    exact .inr ⟨18, p, q, h1, by unfold Go.Pw.probs; rw [← e1]; simp only [List.append_assoc], e2, .inl rfl⟩
  · obtain ⟨p, q, e1, e2⟩ := head_kind (m := preL t L a s ++ ovrL t L a (aftX t L a s)) (fun p hp => (inL_kind (t := t) (L := L) (a := a) p hp).1) (fun e => h3 ((inL_nil hA).1 e))
    exact .inr ⟨17, p, q, h1, by unfold Go.Pw.probs; rw [(ovL_nil hA).2 h2, ← e1]; simp only [List.append_assoc, List.nil_append], e2, .inr (.inl rfl)⟩
  · obtain ⟨p, q, e1, e2⟩ := head_kind (m := ovrL t L a (aftX t L a s)) (fun p hp => (preL_kind (t := t) (L := L) (a := a) (s := s) p hp).1) (fun e => h4 (preL_nil.1 e))
    exact .inr ⟨12, p, q, h1, by unfold Go.Pw.probs; rw [(ovL_nil hA).2 h2, (inL_nil hA).2 h3, ← e1]; simp only [List.append_assoc, List.nil_append], e2, .inr (.inr (.inl rfl))⟩
  · obtain ⟨p, q, e1, e2⟩ := head_kind (m := []) (fun p hp => (ovrL_kind (t := t) (L := L) (a := a) (s' := aftX t L a s) p hp).1) (fun e => h6 (ovrL_nil.1 e))
    exact .inr ⟨16, p, q, h1, by unfold Go.Pw.probs; rw [(ovL_nil hA).2 h2, (inL_nil hA).2 h3, preL_nil.2 h4, ← e1]; simp only [List.append_nil, List.nil_append], e2, .inr (.inr (.inr rfl))⟩
/-! ### the program's tick -/
theorem cut_drop {α : Type} {l : List α} {i : Nat} (hi : i < l.length) (hl : l.length ≤ 1000000) : cut l (IntKind.i64.wrap ((i : Int) + 1)) (l.length : Int) = some (l.drop (i + 1)) := by
  rw [wrap_id (by omega) (by omega)]
  unfold cut
  rw [if_pos (by omega)]
  rw [Int.toNat_natCast, List.take_length]
  rfl
theorem run_tick_ok {fu : Nat} (hfu : 1000 ≤ fu) (hA : Acc t L) (hn : L.length ≤ 40) {o : simulate_Report} (hP : o.Problems.length ≤ 10000000) (hS : o.States.length ≤ 100000) (hs : s.length = t.Vars.length) :
    Ok (simulate_run_tick_p fu ⟨t, L, o⟩ a (evT t L a) s) fun r => AftOK t L a s r.1 ∧ ((evT t L a).length ≤ 20 → r.1 = aftX t L a s) ∧ r.2.1 = o.States ++ [r.1] ∧ r.2.2 = o.Problems ++ probs t L a s r.1 := by
  have hel : (evT t L a).length = (evI t L a).length := by unfold evT; rw [List.length_map]
  have hev := evI_len (t := t) (L := L) (a := a)
  have hg : ∀ {i : Nat} {x : Nat × Bool}, (evI t L a)[i]? = some x → (evT t L a)[i]? = some (evX t L x) := fun h => by unfold evT; rw [List.getElem?_map, h]; rfl
  have l1 := ovL_len (t := t) (L := L) (a := a)
  have l2 := inL_len (t := t) (L := L) (a := a) hn
  have l3 := preL_len (a := a) hA hn (s := s)
  have hsq := sq_le hn
  unfold simulate_run_tick_p
  refine Ok.step (overlapsR_ok hA hn (by omega)) ?_
  have hI : forS (fun i100 => fun (l102 : (List simulate_Problem)) => (idx (evT t L a) (i100 : Int)).bind fun x101 =>
      (cut (evT t L a) (IntKind.i64.wrap ((i100 : Int) + 1)) ((evT t L a).length : Int)).bind fun c100 =>
      (forS (fun i101 => fun (l103 : (List simulate_Problem)) => (idx c100 (i101 : Int)).bind fun x102 =>
      (simulate_run_job_p (⟨t, L, (⟨o.Events, o.States, l103, o.Makespan⟩ : simulate_Report)⟩ : simulate_run) x101).bind <| fun (y100 : Job) =>
      (simulate_run_job_p (⟨t, L, (⟨o.Events, o.States, l103, o.Makespan⟩ : simulate_Report)⟩ : simulate_run) x102).bind <| fun (y101 : Job) =>
      (simulate_meeting_p y100 x101.End y101 x102.End).bind <| fun (y102 : Int) =>
      (if decide (0 ≤ y102) then ((simulate_run_report_p (⟨t, L, (⟨o.Events, o.States, l103, o.Makespan⟩ : simulate_Report)⟩ : simulate_run) a 17 x101.Launch x102.Launch y102).bind <| fun (l104 : (List simulate_Problem)) =>
      some l104)
      else (some l103)).bind (fun (l105 : (List simulate_Problem)) => some l105)) (c100.length) 0 l102).bind (fun (l103 : (List simulate_Problem)) => some l103)) ((evT t L a).length) 0 (o.Problems ++ ovL t L a) = some ((o.Problems ++ ovL t L a) ++ inL t L a) := by
    rw [hel]
    unfold inL prsI
    refine forAppN (n := (evI t L a).length) (g := prsG (inP t L a) (evI t L a)) 80 (fun i hi => ?_) ?_
    · have := prsG_len (inP_len (t := t) (L := L) (a := a)) (evI t L a) i
      omega
    · intro i out hi ho
      rw [List.length_append] at ho
      have gx := List.getElem?_eq_getElem hi
      have mx := mem_evI.1 (List.getElem_mem hi)
      rw [idx_nat, hg gx, Option.bind_some, ← hel, cut_drop (by omega) (by omega), Option.bind_some, prsG_get gx]
      have hd : (evT t L a).drop (i + 1) = ((evI t L a).drop (i + 1)).map (evX t L) := by unfold evT; rw [List.map_drop]
      rw [hd, List.length_map]
      rw [forApp (xs := (evI t L a).drop (i + 1)) (base := out) (g := inP t L a (evI t L a)[i]) 1 (fun y _ => inP_len _ y)]
      · rfl
      · intro k y out2 hy ho2
        rw [List.length_drop] at ho2
        have my := mem_evI.1 (List.mem_of_mem_drop (List.mem_of_getElem? hy))
        rw [idx_nat, List.getElem?_map, hy]
        simp only [Option.map_some, Option.bind_some]
        rw [runjob_ok hA mx.1, Option.bind_some, runjob_ok hA my.1, Option.bind_some]
        have hm := (meeting_ok (jH_ok hA mx.1) (jH_ok hA my.1) (evI t L a)[i].2 y.2).1
        have e1 : (evX t L (evI t L a)[i]).End = (evI t L a)[i].2 := rfl
        have e2 : (evX t L y).End = y.2 := rfl
        rw [e1, e2, hm, Option.bind_some]
        unfold inP
        by_cases c : 0 ≤ meetV (jH t L (evI t L a)[i]) (jH t L y) (evI t L a)[i].2 y.2
        · rw [if_pos c, if_pos (by simpa using c), report_ok (by simp only; omega)]; rfl
        · rw [if_neg c, if_neg (by simpa using c)]; simp
  simp only []
  refine Ok.bind (Ok.of hI ?_)
  have hPre : ∀ (base : List simulate_Problem), base.length ≤ 20000000 → forS (fun i102 => fun (l106 : (List simulate_Problem)) => (idx (evT t L a) (i102 : Int)).bind fun x103 =>
      (simulate_run_job_p (⟨t, L, (⟨o.Events, o.States, l106, o.Makespan⟩ : simulate_Report)⟩ : simulate_run) x103).bind <| fun (y103 : Job) =>
      (simulate_missing_p ((simulate_happening_t y103 x103.End).1) s).bind <| fun (y104 : (List Fact)) =>
      (forS (fun i103 => fun (l107 : (List simulate_Problem)) => (idx y104 (i103 : Int)).bind fun x104 =>
      (simulate_run_report_p (⟨t, L, (⟨o.Events, o.States, l107, o.Makespan⟩ : simulate_Report)⟩ : simulate_run) a 12 x103.Launch (-1) x104.Var).bind <| fun (l108 : (List simulate_Problem)) =>
      some l108) (y104.length) 0 l106).bind (fun (l107 : (List simulate_Problem)) => some l107)) ((evT t L a).length) 0 base = some (base ++ preL t L a s) := by
    intro base hb
    rw [hel]
    unfold preL
    refine forApp (xs := evI t L a) (g := fun x => (lackF (rdX t L x) s).flatMap fun f => [(⟨a, 12, (x.1 : Int), -1, f.Var⟩ : simulate_Problem)]) 64 (fun x hx => ?_) ?_
    · rw [one_len]
      have := lackF_len (rdX t L x) s
      have := len64 (rdX_ok hA (mem_evI.1 hx).1) hA.chk.vars
      omega
    · intro i x out hx ho
      have mx := mem_evI.1 (List.mem_of_getElem? hx)
      have hl := len64 (rdX_ok hA mx.1) hA.chk.vars
      rw [idx_nat, hg hx, Option.bind_some, runjob_ok hA mx.1, Option.bind_some, hap_eq]
      have e1 : ((rdH (jH t L x) (evX t L x).End, wrH (jH t L x) (evX t L x).End) : List Fact × List Fact).1 = rdX t L x := rfl
      rw [e1, missing_ok s (by omega), Option.bind_some]
      have := lackF_len (rdX t L x) s
      rw [lack_loop (g := fun f => (⟨a, 12, (x.1 : Int), -1, f.Var⟩ : simulate_Problem)) (by omega)]
      · rfl
      · intro k f out2 hf ho2
        rw [idx_nat, hf, Option.bind_some, report_ok (by simp only; omega)]
        rfl
  refine Ok.bind (Ok.of (hPre _ (by simp only [List.length_append]; omega)) ?_)
  refine Ok.bind ((write_ok hfu hA hn hs).mono fun s' hs' => ?_)
  have hOv : ∀ (base : List simulate_Problem), base.length ≤ 30000000 → forS (fun i104 => fun (l109 : (List simulate_Problem)) => (idx L (i104 : Int)).bind fun x105 =>
      (if decide (a < x105.At) then (some true)
      else ((simulate_run_end_43_p (⟨t, L, (⟨o.Events, o.States, l109, o.Makespan⟩ : simulate_Report)⟩ : simulate_run) (i104 : Int)).bind <| fun (y106 : Int) =>
      some (decide (y106 ≤ a)))).bind (fun (z100 : Bool) => if z100 then (some l109)
      else ((idx t.Jobs x105.Job).bind fun x106 =>
      (simulate_missing_p x106.Over s').bind <| fun (y107 : (List Fact)) =>
      (forS (fun i105 => fun (l110 : (List simulate_Problem)) => (idx y107 (i105 : Int)).bind fun x107 =>
      (simulate_run_report_p (⟨t, L, (⟨o.Events, o.States, l110, o.Makespan⟩ : simulate_Report)⟩ : simulate_run) a 16 (i104 : Int) (-1) x107.Var).bind <| fun (l111 : (List simulate_Problem)) =>
      some l111) (y107.length) 0 l109).bind (fun (l110 : (List simulate_Problem)) => some l110)))) (L.length) 0 base = some (base ++ ovrL t L a s') := by
    intro base hb
    unfold ovrL
    refine forAppN (n := L.length) (g := fun i => if (lau L i).At ≤ a ∧ a < endT t (lau L i) then (lackF (jb t (lau L i)).Over s').flatMap fun f => [(⟨a, 16, (i : Int), -1, f.Var⟩ : simulate_Problem)] else []) 64 (fun i hi => ?_) ?_
    · split
      · rw [one_len]
        have := lackF_len (jb t (lau L i)).Over s'
        have := over_len hA hi
        omega
      · simp
    · intro i out hi ho
      have hov := over_len hA hi
      rw [idx_nat, lau_get hi, Option.bind_some, runend51_ok hA hi]
      have e : (if decide (a < (lau L i).At) then (some true) else ((some (endT t (lau L i))).bind fun (y106 : Int) => some (decide (y106 ≤ a)))) = some (!decide ((lau L i).At ≤ a ∧ a < endT t (lau L i))) := by
        by_cases c1 : a < (lau L i).At
        · have c2 : ¬ (lau L i).At ≤ a := by omega
          simp [c1, c2]
        · have c2 : (lau L i).At ≤ a := by omega
          by_cases c3 : a < endT t (lau L i)
          · have c4 : ¬ endT t (lau L i) ≤ a := by omega
            simp [c1, c2, c3, c4]
          · have c4 : endT t (lau L i) ≤ a := by omega
            simp [c1, c2, c3, c4]
      rw [e, Option.bind_some]
      by_cases c : (lau L i).At ≤ a ∧ a < endT t (lau L i)
      · rw [if_neg (by simp [c]), if_pos c, jb_idx (hA.ok _ (lau_mem hi)), Option.bind_some, missing_ok s' (by omega), Option.bind_some]
        have := lackF_len (jb t (lau L i)).Over s'
        rw [lack_loop (g := fun f => (⟨a, 16, (i : Int), -1, f.Var⟩ : simulate_Problem)) (by omega)]
        · rfl
        · intro k f out2 hf ho2
          rw [idx_nat, hf, Option.bind_some, report_ok (by simp only; omega)]
          rfl
      · rw [if_pos (by simp only [c, decide_false, Bool.not_false]), if_neg c, List.append_nil]
  refine Ok.bind (Ok.of (hOv _ (by simp only [List.length_append]; omega)) ?_)
  refine Ok.step (app_ok (by simp; omega)) ⟨_, rfl, hs'.1, hs'.2, rfl, ?_⟩
  unfold probs
  simp only [List.append_assoc]
end
end Go.Pw
