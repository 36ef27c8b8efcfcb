/-
  Simulation: the stable sort of a tick's events (one block), and what write does.
-/
import Derived.Test.YthbgcahoknmmmaaRaSA
import Derived.Test.YthbgcahoknmmmaaRaC
set_option linter.unusedVariables false
set_option linter.unusedSimpArgs false
namespace Go.Pw
instance : Inhabited simulate_Event := ⟨⟨0, 0, false⟩⟩
def eva (l : List simulate_Event) (i : Nat) : simulate_Event := l[i]!
theorem eva_get {l : List simulate_Event} {i : Nat} (h : i < l.length) : l[i]? = some (eva l i) := by simp [eva, h]
theorem eva_eq {l : List simulate_Event} {i : Nat} (h : i < l.length) : l[i] = eva l i := by simp [eva, h]
theorem eva_set {l : List simulate_Event} {i a : Nat} {x : simulate_Event} (hi : i < l.length) : eva (l.set i x) a = if a = i then x else eva l a := by
  unfold eva
  rw [List.getElem!_eq_getElem?_getD, List.getElem!_eq_getElem?_getD]
  by_cases c : a = i
  · subst c; rw [List.getElem?_set_self hi, if_pos rfl]; rfl
  · rw [List.getElem?_set_ne (Ne.symm c), if_neg c]
def jobE (L : List Launch) (e : simulate_Event) : Int := (lau L e.Launch.toNat).Job
def Lt2 (L : List Launch) (x y : simulate_Event) : Prop := rkE x < rkE y ∨ rkE x = rkE y ∧ jobE L x < jobE L y
def Wo (L : List Launch) (x y : simulate_Event) : Prop := rkE x < rkE y ∨ rkE x = rkE y ∧ (jobE L x < jobE L y ∨ jobE L x = jobE L y ∧ x.Launch < y.Launch)
def Pr0 (x y : simulate_Event) : Prop := rkE x = rkE y → x.Launch < y.Launch
def EvOK (L : List Launch) (e : simulate_Event) : Prop := 0 ≤ e.Launch ∧ e.Launch < L.length
theorem lauE {L : List Launch} {e : simulate_Event} (h : EvOK L e) : idx L e.Launch = some (lau L e.Launch.toNat) := by
  obtain ⟨a, b⟩ := h
  obtain ⟨n, hn⟩ : ∃ n : Nat, e.Launch = (n : Int) := ⟨e.Launch.toNat, by omega⟩
  rw [hn, idx_nat, lau_get (by omega)]; rfl
theorem cmp2_ok {c : simulate_run} {x y : simulate_Event} (hx : EvOK c.l x) (hy : EvOK c.l y) : Ok (simulate_run_write_c1_p x y c) fun r => decide (r < 0) = true ↔ Lt2 c.l x y := by
  unfold simulate_run_write_c1_p cmp_Or_int_p
  rw [lauE hx, Option.bind_some, lauE hy, Option.bind_some]
  simp only [cmpC, rank_t]
  show Ok ((ctl (forC _ 2 0 ()) _ _).bind _) _
  simp only [forC, idx, ctl]
  have e1 : (if x.End = true then (0 : Int) else 1) = rkE x := rfl
  have e2 : (if y.End = true then (0 : Int) else 1) = rkE y := rfl
  rw [e1, e2]
  show Ok _ fun r => decide (r < 0) = true ↔ rkE x < rkE y ∨ rkE x = rkE y ∧ (lau c.l x.Launch.toNat).Job < (lau c.l y.Launch.toNat).Job
  by_cases h1 : cmpI (rkE x) (rkE y) = 0
  · have e := (cmpI_zero _ _).1 h1
    by_cases h2 : cmpI (lau c.l x.Launch.toNat).Job (lau c.l y.Launch.toNat).Job = 0
    · have e' := (cmpI_zero _ _).1 h2
      refine ⟨0, by simp [h1, h2], ?_⟩
      simp; omega
    · refine ⟨_, by simp [h1, h2]; rfl, ?_⟩
      show (decide (cmpI _ _ < 0) = true ↔ _)
      rw [decide_eq_true_eq, cmpI_neg]; omega
  · have e : rkE x ≠ rkE y := fun h => h1 ((cmpI_zero _ _).2 h)
    refine ⟨_, by simp [h1]; rfl, ?_⟩
    show (decide (cmpI _ _ < 0) = true ↔ _)
    rw [decide_eq_true_eq, cmpI_neg]; omega
/-- An insertion sort of one block. -/
theorem insertion_ok {c : simulate_run} {l0 : List simulate_Event} (hlen : l0.length ≤ 1000) (hok : ∀ e ∈ l0, EvOK c.l e) (hpre : l0.Pairwise Pr0) {b : Int} (hb : b = (l0.length : Int)) :
    Ok (slices_insertionSortCmpFunc_simulateEvent_o_write_c1_p l0 0 b c) fun l => l.Perm l0 ∧ l.Pairwise (Wo c.l) := by
  subst hb
  unfold slices_insertionSortCmpFunc_simulateEvent_o_write_c1_p
  have hW0 : ∀ x y, Lt2 c.l x y → Wo c.l x y := fun x y h => by unfold Lt2 Wo at *; omega
  have hW1 : ∀ x y, ¬ Lt2 c.l y x → Pr0 x y → Wo c.l x y := fun x y h h' => by unfold Lt2 Wo Pr0 at *; omega
  have hWt : ∀ x y z, Wo c.l x y → Wo c.l y z → Wo c.l x z := fun x y z h h' => by unfold Wo at *; omega
  refine Ok.while (fun q => ∃ i : Nat, q.1 = (i : Int) ∧ 1 ≤ i ∧ (i ≤ l0.length ∨ l0.length = 0) ∧ q.2.Perm l0 ∧ (q.2.take i).Perm (l0.take i) ∧ q.2.drop i = l0.drop i ∧ ∀ a b, a < b → b < i → b < l0.length → Wo c.l (eva q.2 a) (eva q.2 b)) (fun q => q.2.Perm l0 ∧ q.2.Pairwise (Wo c.l)) (fun _ => False) (fun q => l0.length + 1 - q.1.toNat)
    ⟨1, by rw [wrap_id (by omega) (by omega)]; rfl, Nat.le_refl _, by omega, .refl _, .refl _, rfl, fun a b h1 h2 => by omega⟩ ?_ (fun r hr => hr.elim) fun q hq => ⟨q.2, rfl, hq⟩
  rintro ⟨i', l⟩ ⟨i, hi', hi1, hile, hp, htk, hdr, hs⟩
  simp only at hi' hp htk hdr hs
  subst hi'
  have hll := hp.length_eq
  by_cases hlt : i < l0.length
  · -- one more is put in its place
    have hin : Ok (ctl (whileC (R := List simulate_Event) (un2 fun (j100 : Int) (l101 : (List simulate_Event)) => (if decide ((0 : Int) < j100) then ((idx l101 j100).bind fun x100 => (idx l101 (IntKind.i64.wrap (j100 - 1))).bind fun x101 => (simulate_run_write_c1_p x100 x101 c).bind <| fun (y100 : Int) => some (decide (y100 < 0)))
        else (some false)).bind (fun (z100 : Bool) => if z100 then ((idx l101 (IntKind.i64.wrap (j100 - 1))).bind fun x102 => (idx l101 j100).bind fun x103 => (setI l101 j100 x102).bind fun l102 => (idx l102 (IntKind.i64.wrap (j100 - 1))).bind fun x104 => (setI l102 (IntKind.i64.wrap (j100 - 1)) x103).bind fun l103 => some (Ctl.next (IntKind.i64.wrap (j100 - 1), l103)))
        else (some (Ctl.brk (j100, l101))))) ((i : Int), l)) (fun r => some (Ctl.ret r)) (un2 fun (j101 : Int) (l104 : (List simulate_Event)) => (some (Ctl.next (IntKind.i64.wrap ((i : Int) + 1), l104)) : Option (Ctl (Int × List simulate_Event) (List simulate_Event)))))
        (fun r => ∃ l', r = Ctl.next (((i + 1 : Nat) : Int), l') ∧ l'.Perm l0 ∧ (l'.take (i + 1)).Perm (l0.take (i + 1)) ∧ l'.drop (i + 1) = l0.drop (i + 1) ∧ ∀ a b, a < b → b < i + 1 → b < l0.length → Wo c.l (eva l' a) (eva l' b)) := by
      refine Ok.while (fun q => ∃ k : Nat, q.1 = (k : Int) ∧ k ≤ i ∧ q.2.Perm l0 ∧ (q.2.take (i + 1)).Perm (l0.take (i + 1)) ∧ q.2.drop (i + 1) = l0.drop (i + 1) ∧ (∀ a b, a < b → b ≤ i → b ≠ k → Wo c.l (eva q.2 a) (eva q.2 b)) ∧ (∀ a, a < k → Pr0 (eva q.2 a) (eva q.2 k)))
        (fun q => q.2.Perm l0 ∧ (q.2.take (i + 1)).Perm (l0.take (i + 1)) ∧ q.2.drop (i + 1) = l0.drop (i + 1) ∧ ∀ a b, a < b → b < i + 1 → b < l0.length → Wo c.l (eva q.2 a) (eva q.2 b)) (fun _ => False) (fun q => q.1.toNat) ⟨i, rfl, Nat.le_refl _, hp, ?_, ?_, fun a b h1 h2 h3 => hs a b h1 (by omega) (by omega), ?_⟩ ?_ (fun r hr => hr.elim) fun q hq => ⟨_, rfl, q.2, by show Ctl.next (IntKind.i64.wrap ((i : Int) + 1), q.2) = _; rw [wrap_id (by omega) (by omega)]; rfl, hq⟩
      · have e1 := take_snoc (l := l) (j := i) (by omega)
        have e2 := take_snoc (l := l0) (j := i) hlt
        have e3 : l[i]'(by omega) = l0[i] := by
          have h3 := congrArg (fun z => z[0]?) hdr
          simp only [List.getElem?_drop, Nat.add_zero] at h3
          rw [List.getElem?_eq_getElem (by omega), List.getElem?_eq_getElem hlt] at h3
          exact Zu h3
        rw [e1, e2, e3]
        exact htk.append (.refl _)
      · rw [← List.drop_drop, ← List.drop_drop, hdr]
      · intro a ha
        -- what stands ahead came ahead
        have h3 : eva l i = l0[i] := by
          have h3 := congrArg (fun z => z[0]?) hdr
          simp only [List.getElem?_drop, Nat.add_zero] at h3
          rw [eva_get (by omega), List.getElem?_eq_getElem hlt] at h3
          exact Zu h3
        have h4 : eva l a ∈ l0.take i := by
          refine htk.mem_iff.1 ?_
          refine List.mem_of_getElem? (i := a) ?_
          rw [List.getElem?_take_of_lt ha, eva_get (by omega)]
        obtain ⟨a', ha', e⟩ := List.mem_iff_getElem.1 h4
        rw [List.length_take] at ha'
        rw [List.getElem_take] at e
        rw [h3, ← e]
        exact List.pairwise_iff_getElem.1 hpre a' i (by omega) hlt (by omega)
      rintro ⟨k', l⟩ ⟨k, hk, hki, hp, htk, hdr, hs, hpr⟩
      simp only at hk hp htk hdr hs hpr
      subst hk
      have hll := hp.length_eq
      have done : (k = 0 ∨ ∃ m, k = m + 1 ∧ ¬ Lt2 c.l (eva l k) (eva l m)) → ∀ a b, a < b → b < i + 1 → b < l0.length → Wo c.l (eva l a) (eva l b) := fun h a b h1 h2 _ => by
        by_cases e : b = k
        · subst e
          rcases h with h | ⟨m, rfl, h⟩
          · omega
          · have h3 := hW1 _ _ h (hpr m (by omega))
            by_cases e : a = m
            · subst e; exact h3
            · exact hWt _ _ _ (hs a m (by omega) (by omega) (by omega)) h3
        · exact hs a b h1 (by omega) e
      cases k with
      | zero =>
        refine ⟨_, rfl, (fun s' e => by cases e), fun s' e => ?_, (fun r e => by cases e)⟩
        cases e
        exact ⟨hp, htk, hdr, done (.inl rfl)⟩
      | succ m =>
        have hm1 : m + 1 < l.length := by omega
        have gx : idx l ((m + 1 : Nat) : Int) = some (eva l (m + 1)) := by rw [idx_nat]; exact eva_get hm1
        have gy : idx l (m : Int) = some (eva l m) := by rw [idx_nat]; exact eva_get (by omega)
        have ew : IntKind.i64.wrap (((m + 1 : Nat) : Int) - 1) = (m : Int) := by rw [wrap_id (by omega) (by omega)]; omega
        have ox : EvOK c.l (eva l (m + 1)) := hok _ (hp.mem_iff.1 (List.mem_of_getElem? (eva_get hm1)))
        have oy : EvOK c.l (eva l m) := hok _ (hp.mem_iff.1 (List.mem_of_getElem? (eva_get (by omega))))
        obtain ⟨r, hr, hr2⟩ := cmp2_ok ox oy
        simp only [un2, ew, gx, gy, Option.bind_some]
        rw [if_pos (by simp), hr, Option.bind_some, Option.bind_some]
        by_cases h : Lt2 c.l (eva l (m + 1)) (eva l m)
        · rw [if_pos (hr2.2 h), setI_nat hm1, Option.bind_some, idx_nat, eva_get (by simp; omega), Option.bind_some, setI_nat (by simp; omega), Option.bind_some]
          refine ⟨_, rfl, fun s' e => ?_, (fun s' e => by cases e), (fun r e => by cases e)⟩
          cases e
          have hla : ∀ a, eva ((l.set (m + 1) (eva l m)).set m (eva l (m + 1))) a = if a = m then eva l (m + 1) else if a = m + 1 then eva l m else eva l a := fun a => by
            rw [eva_set (by simp; omega), eva_set hm1]
          have hpm : ((l.set (m + 1) (eva l m)).set m (eva l (m + 1))).Perm l := by
            rw [← eva_eq hm1, ← eva_eq (show m < l.length by omega)]
            exact List.set_set_perm hm1 (by omega)
          refine ⟨⟨m, rfl, by omega, hpm.trans hp, ?_, ?_, fun a b h1 h2 h3 => ?_, fun a ha => ?_⟩, by simp⟩
          · refine List.Perm.trans ?_ htk
            simp only
            rw [List.take_set, List.take_set]
            have l1 : m + 1 < (l.take (i + 1)).length := by rw [List.length_take]; omega
            have e1 : eva l m = (l.take (i + 1))[m]'(by omega) := by rw [List.getElem_take, eva_eq]
            have e2 : eva l (m + 1) = (l.take (i + 1))[m + 1]'l1 := by rw [List.getElem_take, eva_eq]
            rw [e1, e2]
            exact List.set_set_perm l1 (by omega)
          · simp only
            rw [List.drop_set_of_lt (by omega), List.drop_set_of_lt (by omega), hdr]
          · show Wo c.l (eva ((l.set (m + 1) (eva l m)).set m (eva l (m + 1))) a) (eva ((l.set (m + 1) (eva l m)).set m (eva l (m + 1))) b)
            rw [hla a, hla b]
            by_cases c1 : b = m + 1
            · subst c1
              rw [if_neg (by omega : ¬ m + 1 = m), if_pos rfl]
              by_cases c2 : a = m
              · subst c2; rw [if_pos rfl]; exact hW0 _ _ h
              · rw [if_neg c2, if_neg (by omega)]
                exact hs a m (by omega) (by omega) (by omega)
            · rw [if_neg h3, if_neg c1]
              by_cases c2 : a = m
              · subst c2; rw [if_pos rfl]
                exact hs (a + 1) b (by omega) h2 c1
              · rw [if_neg c2]
                by_cases c3 : a = m + 1
                · subst c3; rw [if_pos rfl]
                  exact hs m b (by omega) h2 c1
                · rw [if_neg c3]; exact hs a b h1 h2 c1
          · show Pr0 (eva ((l.set (m + 1) (eva l m)).set m (eva l (m + 1))) a) (eva ((l.set (m + 1) (eva l m)).set m (eva l (m + 1))) m)
            rw [hla a, hla m, if_neg (by omega), if_neg (by omega), if_pos rfl]
            exact hpr a (by omega)
        · rw [if_neg (fun hh => h (hr2.1 hh))]
          refine ⟨_, rfl, (fun s' e => by cases e), fun s' e => ?_, (fun r e => by cases e)⟩
          cases e
          exact ⟨hp, htk, hdr, done (.inr ⟨m, rfl, h⟩)⟩
    obtain ⟨r, h1, l', rfl, h2, h3, h4, h5⟩ := hin
    refine ⟨Ctl.next (((i + 1 : Nat) : Int), l'), ?_, fun s' e => ?_, (fun s' e => by cases e), (fun r e => by cases e)⟩
    · simp only [un2]
      rw [if_pos (by simpa using hlt)]
      exact h1
    · cases e
      exact ⟨⟨i + 1, rfl, by omega, by omega, h2, h3, h4, h5⟩, by simp only [Int.toNat_natCast]; omega⟩
  · refine ⟨Ctl.brk ((i : Int), l), ?_, (fun s' e => by cases e), fun s' e => ?_, (fun r e => by cases e)⟩
    · simp only [un2]
      rw [if_neg (by simp; omega)]
    · cases e
      refine ⟨hp, List.pairwise_iff_getElem.2 fun a b ha hb hab => ?_⟩
      have hb' : b < l.length := hb
      have := hs a b hab (by omega) (by omega)
      rw [eva_eq ha, eva_eq hb]
      exact this
end Go.Pw
/-
  Simulation: the stable sort of any number of events gives the same events; of one block, in order.
-/
namespace Go.Pw
theorem half_ok {x : Int} (h0 : 0 ≤ x) (h1 : x ≤ 4000000) : IntKind.i64.wrap ((IntKind.u64.wrap (IntKind.i64.wrap x)).fdiv (2 ^ 1)) = x / 2 := by
  rw [wrap_id (n := x) (by omega) (by omega)]
  have e : IntKind.u64.wrap x = x := by
    simp [IntKind.wrap, IntKind.signed, IntKind.bits]
    omega
  rw [e]
  have e2 : x.fdiv (2 ^ 1) = x / 2 := by
    rw [Int.fdiv_eq_ediv_of_nonneg _ (by decide)]; rfl
  rw [e2, wrap_id (by omega) (by omega)]
/-- How a round of a loop without a count ends. -/
def WhP {S R : Type} (Inv : S → Prop) (Bp : S → Prop) (Rp : R → Prop) (μ : S → Nat) (s : S) : Ctl S R → Prop
  | .next s' => Inv s' ∧ μ s' < μ s
  | .brk s' => Bp s'
  | .ret r => Rp r
theorem Ok.whl {S R β : Type} {B : S → Option (Ctl S R)} {s : S} {Q : β → Prop} {kr : R → Option β} {k : S → Option β} (Inv : S → Prop) (Bp : S → Prop) (Rp : R → Prop) (μ : S → Nat) (h0 : Inv s)
    (h : ∀ s, Inv s → Ok (B s) (WhP Inv Bp Rp μ s)) (hr : ∀ r, Rp r → Ok (kr r) Q) (hb : ∀ s, Bp s → Ok (k s) Q) : Ok (Go.Pw.ctl (whileC B s) kr k) Q :=
  Ok.while Inv Bp Rp μ h0 (fun s hs => let ⟨c, h1, h2⟩ := h s hs; ⟨c, h1, (fun s' e => by subst e; exact h2), (fun s' e => by subst e; exact h2), (fun r e => by subst e; exact h2)⟩) hr hb
theorem Ok.swap {α β : Type} {l : List α} {p q : Int} {f : List α → Option β} {P : β → Prop} (hp0 : 0 ≤ p) (hp : p < l.length) (hq0 : 0 ≤ q) (hq : q < l.length) (k : ∀ l', l'.Perm l → Ok (f l') P) :
    Ok ((idx l p).bind fun x => (idx l q).bind fun y => (setI l q x).bind fun l1 => (idx l1 p).bind fun _ => (setI l1 p y).bind f) P := by
  obtain ⟨i, rfl⟩ : ∃ n : Nat, p = (n : Int) := ⟨p.toNat, by omega⟩
  obtain ⟨j, rfl⟩ : ∃ n : Nat, q = (n : Int) := ⟨q.toNat, by omega⟩
  have hi : i < l.length := by omega
  have hj : j < l.length := by omega
  rw [idx_nat, idx_nat, List.getElem?_eq_getElem hi, List.getElem?_eq_getElem hj, Option.bind_some, Option.bind_some, setI_nat hj, Option.bind_some, idx_nat, List.getElem?_eq_getElem (by simpa using hi), Option.bind_some, setI_nat (by simpa using hi), Option.bind_some]
  exact k _ (List.set_set_perm hj hi)
section
variable {c : simulate_run}
def EvA (L : List Launch) (l : List simulate_Event) : Prop := ∀ e ∈ l, EvOK L e
theorem EvA.perm {L : List Launch} {l l' : List simulate_Event} (h : EvA L l) (hp : l'.Perm l) : EvA L l' := fun e he => h e (hp.mem_iff.1 he)
theorem EvA.idx {l : List simulate_Event} (h : EvA c.l l) {i : Int} (h0 : 0 ≤ i) (h1 : i < l.length) : ∃ e, idx l i = some e ∧ EvOK c.l e := by
  obtain ⟨e, h2, h3⟩ := idx_some' h0 h1
  exact ⟨e, h2, h e (List.mem_of_getElem? h3)⟩
/-- A comparison. -/
theorem Ok.cmpE {β : Type} {l : List simulate_Event} (h : EvA c.l l) {i j : Int} (i0 : 0 ≤ i) (i1 : i < l.length) (j0 : 0 ≤ j) (j1 : j < l.length) {f : Int → Option β} {P : β → Prop} (k : ∀ r, Ok (f r) P) :
    Ok ((idx l i).bind fun x => (idx l j).bind fun y => (simulate_run_write_c1_p x y c).bind f) P := by
  obtain ⟨x, e1, o1⟩ := h.idx i0 i1
  obtain ⟨y, e2, o2⟩ := h.idx j0 j1
  obtain ⟨r, e3, _⟩ := cmp2_ok o1 o2
  exact Ok.step e1 (Ok.step e2 (Ok.step e3 (k r)))
/-- An insertion sort keeps what is there. -/
theorem insertion_perm {l0 : List simulate_Event} (hlen : l0.length ≤ 1000) (hok : EvA c.l l0) {a b : Int} (ha : 0 ≤ a) (hb : b ≤ l0.length) (hab : a ≤ 1000) :
    Ok (slices_insertionSortCmpFunc_simulateEvent_o_write_c1_p l0 a b c) fun l => l.Perm l0 := by
  unfold slices_insertionSortCmpFunc_simulateEvent_o_write_c1_p
  refine Ok.whl (fun q => a + 1 ≤ q.1 ∧ q.1 ≤ 1001 ∧ q.2.Perm l0) (fun q => q.2.Perm l0) (fun _ => False) (fun q => (1001 - q.1).toNat) ⟨by rw [wrap_id (by omega) (by omega)]; exact Int.le_refl _, by simp only [wrap_id (n := a + 1) (by omega) (by omega)]; omega, .refl _⟩ ?_ (fun r hr => hr.elim) fun q hq => ⟨q.2, rfl, hq⟩
  rintro ⟨i, l⟩ ⟨h1, h2, hp⟩
  simp only at h1 h2 hp
  simp only [un2, un3]
  have hl := hp.length_eq
  refine Ok.ite (fun hlt => ?_) fun hlt => ⟨_, rfl, hp⟩
  have hlt := dec_t hlt
  refine Ok.whl (fun q => a ≤ q.1 ∧ q.1 ≤ i ∧ q.2.Perm l0) (fun q => q.2.Perm l0) (fun _ => False) (fun q => (q.1 - a).toNat) ⟨by simp only; omega, Int.le_refl _, hp⟩ ?_ (fun r hr => hr.elim) fun q hq => ⟨_, rfl, ⟨?_, ?_, hq⟩, ?_⟩
  · rintro ⟨k, m⟩ ⟨g1, g2, g3⟩
    simp only at g1 g2 g3
    simp only [un2, un3]
    have hml := g3.length_eq
    refine Ok.bind (Ok.ite (fun hk => ?_) fun hk => ⟨_, rfl, _, rfl, g3⟩)
    have hk := dec_t hk
    have ew : IntKind.i64.wrap (k - 1) = k - 1 := wrap_id (by omega) (by omega)
    rw [ew]
    refine Ok.cmpE (hok.perm g3) (by omega) (by omega) (by omega) (by omega) fun r => ⟨_, rfl, ?_⟩
    refine Ok.ite (fun _ => ?_) fun _ => ⟨_, rfl, g3⟩
    exact Ok.swap (by omega) (by omega) (by omega) (by omega) fun m' hm => ⟨_, rfl, ⟨by simp only; omega, by simp only; omega, hm.trans g3⟩, by simp only; omega⟩
  · simp only; rw [wrap_id (by omega) (by omega)]; omega
  · simp only; rw [wrap_id (by omega) (by omega)]; omega
  · simp only; rw [wrap_id (by omega) (by omega)]; omega
theorem swapRange_perm {l0 : List simulate_Event} (hlen : l0.length ≤ 1000) {a b n : Int} (ha : 0 ≤ a) (hb : 0 ≤ b) (han : a + n ≤ l0.length) (hbn : b + n ≤ l0.length) :
    Ok (slices_swapRangeCmpFunc_simulateEvent_o_write_c1_p l0 a b n c) fun l => l.Perm l0 := by
  unfold slices_swapRangeCmpFunc_simulateEvent_o_write_c1_p
  refine Ok.whl (fun q => 0 ≤ q.1 ∧ q.2.Perm l0) (fun q => q.2.Perm l0) (fun _ => False) (fun q => (n - q.1).toNat) ⟨Int.le_refl _, .refl _⟩ ?_ (fun r hr => hr.elim) fun q hq => ⟨q.2, rfl, hq⟩
  rintro ⟨i, l⟩ ⟨h1, hp⟩
  simp only at h1 hp
  simp only [un2, un3]
  have hl := hp.length_eq
  refine Ok.ite (fun hlt => ?_) fun hlt => ⟨_, rfl, hp⟩
  have hlt := dec_t hlt
  rw [wrap_id (n := b + i) (by omega) (by omega), wrap_id (n := a + i) (by omega) (by omega), wrap_id (n := i + 1) (by omega) (by omega)]
  exact Ok.swap (by omega) (by omega) (by omega) (by omega) fun m' hm => ⟨_, rfl, ⟨by simp only; omega, hm.trans hp⟩, by simp only; omega⟩
theorem rotate_perm {l0 : List simulate_Event} (hlen : l0.length ≤ 1000) {a m b : Int} (ha : 0 ≤ a) (ham : a < m) (hmb : m < b) (hb : b ≤ l0.length) :
    Ok (slices_rotateCmpFunc_simulateEvent_o_write_c1_p l0 a m b c) fun l => l.Perm l0 := by
  unfold slices_rotateCmpFunc_simulateEvent_o_write_c1_p
  rw [wrap_id (n := m - a) (by omega) (by omega), wrap_id (n := b - m) (by omega) (by omega)]
  refine Ok.whl (fun q => 0 < q.1 ∧ q.1 ≤ m - a ∧ 0 < q.2.1 ∧ q.2.1 ≤ b - m ∧ q.2.2.Perm l0) (fun q => 0 < q.1 ∧ q.1 ≤ m - a ∧ q.1 ≤ b - m ∧ q.2.2.Perm l0) (fun _ => False) (fun q => (q.1 + q.2.1).toNat) ⟨by simp only; omega, Int.le_refl _, by simp only; omega, Int.le_refl _, .refl _⟩ ?_ (fun r hr => hr.elim) ?_
  · rintro ⟨i, j, l⟩ ⟨h1, h2, h3, h4, hp⟩
    simp only at h1 h2 h3 h4 hp
    simp only [un2, un3]
    have hl := hp.length_eq
    refine Ok.ite (fun hne => Ok.bind (Ok.ite (fun hlt => Ok.bind ?_) fun hlt => Ok.bind ?_)) fun he => ⟨_, rfl, h1, h2, ?_, hp⟩
    · have hlt := dec_t hlt
      rw [wrap_id (n := m - i) (by omega) (by omega)]
      refine (swapRange_perm (by omega) (by omega) (by omega) (by omega) (by omega)).mono fun l' hl' => ⟨_, rfl, _, rfl, ⟨?_, ?_, h3, h4, hl'.trans hp⟩, ?_⟩ <;> (simp only; rw [wrap_id (n := i - j) (by omega) (by omega)]; omega)
    · have hlt := dec_f hlt
      have hne : i ≠ j := by simpa using hne
      rw [wrap_id (n := m - i) (by omega) (by omega), wrap_id (n := m + j) (by omega) (by omega), wrap_id (n := m + j - i) (by omega) (by omega)]
      refine (swapRange_perm (by omega) (by omega) (by omega) (by omega) (by omega)).mono fun l' hl' => ⟨_, rfl, _, rfl, ⟨h1, h2, ?_, ?_, hl'.trans hp⟩, ?_⟩ <;> (simp only; rw [wrap_id (n := j - i) (by omega) (by omega)]; omega)
    · have he : i = j := by simpa using he
      simp only; omega
  · rintro ⟨i, j, l⟩ ⟨h1, h2, h3, hp⟩
    simp only at h1 h2 h3 hp
    have hl := hp.length_eq
    simp only [un3]
    rw [wrap_id (n := m - i) (by omega) (by omega)]
    exact Ok.bind ((swapRange_perm (by omega) (by omega) (by omega) (by omega) (by omega)).mono fun l' hl' => ⟨_, rfl, hl'.trans hp⟩)
theorem symMerge_perm : ∀ (fu : Nat) {l0 : List simulate_Event} {a m b : Int}, l0.length ≤ 1000 → EvA c.l l0 → 0 ≤ a → a < m → m < b → b ≤ l0.length → b - a ≤ fu →
    Ok (slices_symMergeCmpFunc_simulateEvent_o_write_c1_p fu l0 a m b c) fun l => l.Perm l0
  | 0, l0, a, m, b, _, _, _, _, _, _, h => by omega
  | fu + 1, l0, a, m, b, hlen, hok, ha, ham, hmb, hb, hfu => by
    unfold slices_symMergeCmpFunc_simulateEvent_o_write_c1_p
    rw [wrap_id (n := m - a) (by omega) (by omega), wrap_id (n := b - m) (by omega) (by omega)]
    refine Ok.ite (fun h => ?_) fun hm1 => Ok.ite (fun h => ?_) fun hb1 => ?_
    · refine Ok.whl (fun q => m ≤ q.1 ∧ q.1 ≤ q.2 ∧ q.2 ≤ b) (fun q => m ≤ q.1 ∧ q.1 ≤ b) (fun _ => False) (fun q => (q.2 - q.1).toNat) ⟨Int.le_refl _, by simp only; omega, Int.le_refl _⟩ ?_ (fun r hr => hr.elim) ?_
      · rintro ⟨i, j⟩ ⟨h1, h2, h3⟩
        simp only at h1 h2 h3
        simp only [un2, un3]
        refine Ok.ite (fun hlt => ?_) fun hlt => ⟨_, rfl, h1, by simp only; omega⟩
        have hlt := dec_t hlt
        rw [half_ok (by omega) (by omega)]
        refine Ok.cmpE hok (by omega) (by omega) (by omega) (by omega) fun r => ?_
        refine Ok.bind (Ok.ite (fun _ => ⟨_, rfl, _, rfl, ⟨?_, ?_, ?_⟩, ?_⟩) fun _ => ⟨_, rfl, _, rfl, ⟨?_, ?_, ?_⟩, ?_⟩)
        all_goals try rw [wrap_id (n := (i + j) / 2 + 1) (by omega) (by omega)]
        all_goals (simp only; omega)
      · rintro ⟨i, j⟩ ⟨h1, h2⟩
        simp only at h1 h2
        simp only [un2]
        rw [wrap_id (n := i - 1) (by omega) (by omega)]
        refine Ok.whl (fun q => a ≤ q.1 ∧ q.2.Perm l0) (fun q => q.2.Perm l0) (fun _ => False) (fun q => (b - q.1).toNat) ⟨Int.le_refl _, .refl _⟩ ?_ (fun r hr => hr.elim) fun q hq => ⟨q.2, rfl, hq⟩
        rintro ⟨k, l⟩ ⟨g1, hp⟩
        simp only at g1 hp
        simp only [un2, un3]
        have hl := hp.length_eq
        refine Ok.ite (fun hlt => ?_) fun hlt => ⟨_, rfl, hp⟩
        have hlt := dec_t hlt
        rw [wrap_id (n := k + 1) (by omega) (by omega)]
        exact Ok.swap (by omega) (by omega) (by omega) (by omega) fun m' hm => ⟨_, rfl, ⟨by simp only; omega, hm.trans hp⟩, by simp only; omega⟩
    · refine Ok.whl (fun q => a ≤ q.1 ∧ q.1 ≤ q.2 ∧ q.2 ≤ m) (fun q => a ≤ q.1 ∧ q.1 ≤ m) (fun _ => False) (fun q => (q.2 - q.1).toNat) ⟨Int.le_refl _, by simp only; omega, Int.le_refl _⟩ ?_ (fun r hr => hr.elim) ?_
      · rintro ⟨i, j⟩ ⟨h1, h2, h3⟩
        simp only at h1 h2 h3
        simp only [un2, un3]
        refine Ok.ite (fun hlt => ?_) fun hlt => ⟨_, rfl, h1, by simp only; omega⟩
        have hlt := dec_t hlt
        rw [half_ok (by omega) (by omega)]
        refine Ok.cmpE hok (by omega) (by omega) (by omega) (by omega) fun r => ?_
        refine Ok.bind (Ok.ite (fun _ => ⟨_, rfl, _, rfl, ⟨?_, ?_, ?_⟩, ?_⟩) fun _ => ⟨_, rfl, _, rfl, ⟨?_, ?_, ?_⟩, ?_⟩)
        all_goals try rw [wrap_id (n := (i + j) / 2 + 1) (by omega) (by omega)]
        all_goals (simp only; omega)
      · rintro ⟨i, j⟩ ⟨h1, h2⟩
        simp only at h1 h2
        simp only [un2]
        refine Ok.whl (fun q => i ≤ q.1 ∧ q.1 ≤ m ∧ q.2.Perm l0) (fun q => q.2.Perm l0) (fun _ => False) (fun q => (q.1 - a).toNat) ⟨by simp only; omega, Int.le_refl _, .refl _⟩ ?_ (fun r hr => hr.elim) fun q hq => ⟨q.2, rfl, hq⟩
        rintro ⟨k, l⟩ ⟨g1, g2, hp⟩
        simp only at g1 g2 hp
        simp only [un2, un3]
        have hl := hp.length_eq
        refine Ok.ite (fun hlt => ?_) fun hlt => ⟨_, rfl, hp⟩
        have hlt := dec_t hlt
        rw [wrap_id (n := k - 1) (by omega) (by omega)]
        exact Ok.swap (by omega) (by omega) (by omega) (by omega) fun m' hm => ⟨_, rfl, ⟨by simp only; omega, by simp only; omega, hm.trans hp⟩, by simp only; omega⟩
    · have hm1 : m - a ≠ 1 := dec_f hm1
      have hb1 : b - m ≠ 1 := dec_f hb1
      rw [half_ok (x := a + b) (by omega) (by omega)]
      obtain ⟨mid, hmid⟩ : ∃ mid, (a + b) / 2 = mid := ⟨_, rfl⟩
      rw [hmid]
      have c1 : 2 * mid ≤ a + b := by omega
      have c2 : a + b ≤ 2 * mid + 1 := by omega
      clear hmid
      rw [wrap_id (n := mid + m) (by omega) (by omega), wrap_id (n := mid + m - b) (by omega) (by omega), wrap_id (n := mid + m - 1) (by omega) (by omega)]
      have key : Ok (if decide (mid < m) then (some (mid + m - b, mid)) else (some (a, m))) fun q : Int × Int => a ≤ q.1 ∧ mid + m - b ≤ q.1 ∧ q.1 ≤ q.2 ∧ q.2 ≤ mid + m - a ∧ q.2 ≤ m ∧ mid ≤ mid + m - q.2 ∧ (q.2 ≤ mid ∨ q.2 = m ∧ m ≤ mid) ∧ (q.2 ≤ mid) := by
        refine Ok.ite (fun h => ⟨_, rfl, ?_⟩) fun h => ⟨_, rfl, ?_⟩
        · have h := dec_t h; simp only; omega
        · have h := dec_f h; simp only; omega
      refine Ok.bind (key.mono ?_)
      rintro ⟨s0, r0⟩ ⟨k1, k2, k3, k4, k5, k6, k7, k8⟩
      simp only at k1 k2 k3 k4 k5 k6 k7 k8
      simp only [un2]
      refine Ok.whl (fun q => s0 ≤ q.1 ∧ q.1 ≤ q.2 ∧ q.2 ≤ r0) (fun q => s0 ≤ q.1 ∧ q.1 ≤ r0) (fun _ => False) (fun q => (q.2 - q.1).toNat) ⟨Int.le_refl _, k3, Int.le_refl _⟩ ?_ (fun r hr => hr.elim) ?_
      · rintro ⟨i, j⟩ ⟨h1, h2, h3⟩
        simp only at h1 h2 h3
        simp only [un2, un3]
        refine Ok.ite (fun hlt => ?_) fun hlt => ⟨_, rfl, h1, by simp only; omega⟩
        have hlt := dec_t hlt
        rw [half_ok (x := i + j) (by omega) (by omega), wrap_id (n := mid + m - 1 - (i + j) / 2) (by omega) (by omega)]
        refine Ok.cmpE hok (by omega) (by omega) (by omega) (by omega) fun r => ?_
        refine Ok.bind (Ok.ite (fun _ => ⟨_, rfl, _, rfl, ⟨?_, ?_, ?_⟩, ?_⟩) fun _ => ⟨_, rfl, _, rfl, ⟨?_, ?_, ?_⟩, ?_⟩)
        all_goals try rw [wrap_id (n := (i + j) / 2 + 1) (by omega) (by omega)]
        all_goals (simp only; omega)
      · rintro ⟨s, r⟩ ⟨h1, h2⟩
        simp only at h1 h2
        simp only [un2]
        rw [wrap_id (n := mid + m - s) (by omega) (by omega)]
        have t1 : Ok (if ((decide (s < m)) && decide (m < mid + m - s)) then ((slices_rotateCmpFunc_simulateEvent_o_write_c1_p l0 s m (mid + m - s) c).bind fun l => some l) else (some l0)) fun l => l.Perm l0 := by
          refine Ok.ite (fun h => Ok.bind ((rotate_perm hlen (by omega) ?_ ?_ (by omega)).mono fun l h => ⟨l, rfl, h⟩)) fun _ => ⟨_, rfl, .refl _⟩
          · simp only [Bool.and_eq_true, decide_eq_true_eq] at h; omega
          · simp only [Bool.and_eq_true, decide_eq_true_eq] at h; omega
        refine Ok.bind (t1.mono fun l1 hl1 => ?_)
        have e1 := hl1.length_eq
        refine Ok.bind (Ok.mono (P := fun l => l.Perm l0) (Ok.ite (fun h => ?_) fun _ => ⟨_, rfl, hl1⟩) fun l2 hl2 => ?_)
        · simp only [Bool.and_eq_true, decide_eq_true_eq] at h
          exact Ok.bind ((symMerge_perm fu (by omega) (hok.perm hl1) ha (by omega) (by omega) (by omega) (by omega)).mono fun l h => ⟨l, rfl, h.trans hl1⟩)
        have e2 := hl2.length_eq
        refine Ok.bind (Ok.mono (P := fun l => l.Perm l0) (Ok.ite (fun h => ?_) fun _ => ⟨_, rfl, hl2⟩) fun l3 hl3 => ⟨_, rfl, hl3⟩)
        simp only [Bool.and_eq_true, decide_eq_true_eq] at h
        exact Ok.bind ((symMerge_perm fu (by omega) (hok.perm hl2) (by omega) (by omega) (by omega) (by omega) (by omega)).mono fun l h => ⟨l, rfl, h.trans hl2⟩)
/-- The stable sort. -/
theorem stable_ok {fu : Nat} {l0 : List simulate_Event} (hfu : 1000 ≤ fu) (hlen : l0.length ≤ 1000) (hok : EvA c.l l0) (hpre : l0.Pairwise Pr0) :
    Ok (slices_SortStableFunc_simulateEvent_o_write_c1_p fu l0 c) fun l => l.Perm l0 ∧ (l0.length ≤ 20 → l.Pairwise (Wo c.l)) := by
  unfold slices_SortStableFunc_simulateEvent_o_write_c1_p slices_stableCmpFunc_simulateEvent_o_write_c1_p
  refine Ok.bind (Ok.mono (P := fun l => l.Perm l0 ∧ (l0.length ≤ 20 → l.Pairwise (Wo c.l))) ?_ fun l h => ⟨l, rfl, h⟩)
  refine Ok.whl (fun q => 0 ≤ q.1 ∧ q.1 + 20 = q.2.1 ∧ q.1 ≤ l0.length ∧ q.2.2.Perm l0 ∧ (q.1 = 0 → q.2.2 = l0) ∧ (l0.length ≤ 20 → q.1 ≠ 0 → q.2.2.Pairwise (Wo c.l) ∧ l0.length = 20 ∧ q.1 = 20))
    (fun q => 0 ≤ q.1 ∧ q.1 ≤ l0.length ∧ q.2.2.Perm l0 ∧ (q.1 = 0 → q.2.2 = l0) ∧ (l0.length ≤ 20 → q.1 ≠ 0 → q.2.2.Pairwise (Wo c.l) ∧ l0.length = 20 ∧ q.1 = 20)) (fun _ => False) (fun q => (2000 - q.1).toNat)
    ⟨Int.le_refl _, rfl, by simp only; omega, .refl _, fun _ => rfl, fun _ h => absurd rfl h⟩ ?_ (fun r hr => hr.elim) ?_
  · rintro ⟨a, b, l⟩ ⟨h1, h2, h3, hp, h4, h5⟩
    simp only at h1 h2 h3 hp h4 h5
    simp only [un2, un3]
    have hl := hp.length_eq
    refine Ok.ite (fun hlt => ?_) fun hlt => ⟨_, rfl, h1, h3, hp, h4, h5⟩
    have hlt := dec_t hlt
    subst h2
    rw [wrap_id (n := a + 20 + 20) (by omega) (by omega)]
    have hs : l0.length ≤ 20 → Ok (slices_insertionSortCmpFunc_simulateEvent_o_write_c1_p l a (a + 20) c) fun l' => l'.Perm l0 ∧ l'.Pairwise (Wo c.l) := fun h => by
      have e : a = 0 := by omega
      subst e
      rw [h4 rfl]
      exact insertion_ok hlen hok hpre (by omega)
    have hin : Ok (slices_insertionSortCmpFunc_simulateEvent_o_write_c1_p l a (a + 20) c) fun l' => l'.Perm l0 ∧ (l0.length ≤ 20 → l'.Pairwise (Wo c.l)) := by
      by_cases h : l0.length ≤ 20
      · exact (hs h).mono fun l' h' => ⟨h'.1, fun _ => h'.2⟩
      · exact (insertion_perm (by omega) (hok.perm hp) h1 (by omega) (by omega)).mono fun l' h' => ⟨h'.trans hp, fun hh => absurd hh h⟩
    refine Ok.bind (hin.mono fun l' h' => ⟨_, rfl, ⟨by simp only; omega, rfl, by simp only; omega, h'.1, fun e => by simp only at e; omega, fun hh _ => ⟨h'.2 hh, by omega, by simp only; omega⟩⟩, by simp only; omega⟩)
  · rintro ⟨a, b, l⟩ ⟨h1, h3, hp, h4, h5⟩
    simp only at h1 h3 hp h4 h5
    have hl := hp.length_eq
    simp only [un3]
    have hin : Ok (slices_insertionSortCmpFunc_simulateEvent_o_write_c1_p l a (l0.length : Int) c) fun l' => l'.Perm l0 ∧ (l0.length ≤ 20 → l'.Pairwise (Wo c.l)) := by
      by_cases h : l0.length ≤ 20
      · by_cases e : a = 0
        · subst e
          rw [h4 rfl]
          exact (insertion_ok hlen hok hpre rfl).mono fun l' h' => ⟨h'.1, fun _ => h'.2⟩
        · obtain ⟨g1, g2, g3⟩ := h5 h e
          unfold slices_insertionSortCmpFunc_simulateEvent_o_write_c1_p
          refine Ok.whl (fun q => 20 < q.1 ∧ q.2 = l) (fun q => q.2 = l) (fun _ => False) (fun q => 0) ⟨by simp only; rw [wrap_id (by omega) (by omega)]; omega, rfl⟩ ?_ (fun r hr => hr.elim) fun q hq => ⟨q.2, rfl, by rw [hq]; exact hp, fun _ => by rw [hq]; exact g1⟩
          rintro ⟨i, l'⟩ ⟨k1, k2⟩
          simp only at k1 k2
          exact Ok.ite (fun hlt => by have := dec_t hlt; omega) fun _ => ⟨_, rfl, k2⟩
      · exact (insertion_perm (by omega) (hok.perm hp) h1 (by omega) (by omega)).mono fun l' h' => ⟨h'.trans hp, fun hh => absurd hh h⟩
    refine Ok.bind (hin.mono fun l1 hl1 => ?_)
    refine Ok.whl (fun q => 20 ≤ q.1 ∧ q.1 ≤ 2000 ∧ q.2.Perm l0 ∧ (l0.length ≤ 20 → q.2.Pairwise (Wo c.l))) (fun q => q.2.Perm l0 ∧ (l0.length ≤ 20 → q.2.Pairwise (Wo c.l))) (fun _ => False) (fun q => (2000 - q.1).toNat)
      ⟨Int.le_refl _, by simp, hl1⟩ ?_ (fun r hr => hr.elim) fun q hq => ⟨q.2, rfl, hq⟩
    rintro ⟨z, l2⟩ ⟨g1, g2, g3⟩
    simp only at g1 g2 g3
    simp only [un2, un3]
    refine Ok.ite (fun hlt => ?_) fun hlt => ⟨_, rfl, g3⟩
    have hlt := dec_t hlt
    have hbig : ¬ l0.length ≤ 20 := by omega
    rw [wrap_id (n := 2 * z) (by omega) (by omega)]
    refine Ok.whl (fun q => 0 ≤ q.1 ∧ q.1 + 2 * z = q.2.1 ∧ q.1 ≤ l0.length ∧ q.2.2.Perm l0) (fun q => 0 ≤ q.1 ∧ q.1 ≤ l0.length ∧ l0.length < q.1 + 2 * z ∧ q.2.2.Perm l0) (fun _ => False) (fun q => (2000 - q.1).toNat)
      ⟨Int.le_refl _, by simp, by simp only; omega, g3.1⟩ ?_ (fun r hr => hr.elim) ?_
    · rintro ⟨a, b, l⟩ ⟨h1, h2, h3, hp⟩
      simp only at h1 h2 h3 hp
      simp only [un2, un3]
      have hl := hp.length_eq
      subst h2
      refine Ok.ite (fun hlt => ?_) fun hlt => ⟨_, rfl, h1, h3, by have := dec_f hlt; simp only; omega, hp⟩
      have hlt := dec_t hlt
      rw [wrap_id (n := a + z) (by omega) (by omega), wrap_id (n := a + 2 * z + 2 * z) (by omega) (by omega)]
      exact Ok.bind ((symMerge_perm fu (by omega) (hok.perm hp) h1 (by omega) (by omega) (by omega) (by omega)).mono fun l' h' => ⟨_, rfl, ⟨by simp only; omega, rfl, by simp only; omega, h'.trans hp⟩, by simp only; omega⟩)
    · rintro ⟨a, b, l⟩ ⟨h1, h2, h3, hp⟩
      simp only at h1 h2 h3 hp
      have hl := hp.length_eq
      simp only [un3]
      rw [wrap_id (n := a + z) (by omega) (by omega), wrap_id (n := z * 2) (by omega) (by omega)]
      refine Ok.bind (Ok.mono (P := fun l => l.Perm l0) (Ok.ite (fun h => ?_) fun _ => ⟨_, rfl, hp⟩) fun l' hl' => ⟨_, rfl, ⟨by simp only; omega, by simp only; omega, hl', fun h => absurd h hbig⟩, by simp only; omega⟩)
      have h := dec_t h
      exact Ok.bind ((symMerge_perm fu (by omega) (hok.perm hp) h1 (by omega) (by omega) (by omega) (by omega)).mono fun l' h' => ⟨_, rfl, h'.trans hp⟩)
end
end Go.Pw
/-
  Simulation: the events in order, and the state behind a tick's events.
-/
namespace Go.Pw
/-! ### loops that append -/
theorem flatMap_le {α β : Type} {f : α → List β} {k : Nat} : ∀ {l : List α}, (∀ x ∈ l, (f x).length ≤ k) → (l.flatMap f).length ≤ l.length * k
  | [], _ => by simp
  | x :: l, h => by
    have h1 := h x (by simp)
    have h2 := flatMap_le (l := l) fun y hy => h y (List.mem_cons_of_mem _ hy)
    rw [List.flatMap_cons, List.length_append, List.length_cons, Nat.succ_mul]
    omega
theorem forApp {α β : Type} {xs : List α} {g : α → List β} {B : Nat → List β → Option (List β)} {base : List β} (k : Nat) (hk : ∀ x ∈ xs, (g x).length ≤ k)
    (h : ∀ (i : Nat) (x : α) (out : List β), xs[i]? = some x → out.length ≤ base.length + xs.length * k → B i out = some (out ++ g x)) : forS B xs.length 0 base = some (base ++ xs.flatMap g) := by
  refine Ok.eq (Ok.forS (fun j out => out = base ++ (xs.take j).flatMap g) (by simp) ?_ fun s hs => by rw [hs, List.take_length])
  rintro j out hj rfl
  have h1 : ((xs.take j).flatMap g).length ≤ (xs.take j).length * k := flatMap_le fun x hx => hk x (List.mem_of_mem_take hx)
  have h2 : (xs.take j).length * k ≤ xs.length * k := Nat.mul_le_mul_right _ (by rw [List.length_take]; omega)
  refine ⟨_, h j xs[j] _ (List.getElem?_eq_getElem hj) (by rw [List.length_append]; omega), ?_⟩
  rw [take_snoc hj, List.flatMap_append, List.append_assoc]
  simp
theorem forAppN {β : Type} {n : Nat} {g : Nat → List β} {B : Nat → List β → Option (List β)} {base : List β} (k : Nat) (hk : ∀ i, i < n → (g i).length ≤ k)
    (h : ∀ (i : Nat) (out : List β), i < n → out.length ≤ base.length + n * k → B i out = some (out ++ g i)) : forS B n 0 base = some (base ++ (List.range n).flatMap g) := by
  have := forApp (xs := List.range n) (g := g) (B := B) (base := base) k (fun x hx => hk x (by simpa using hx)) (fun i x out hx ho => by
    obtain ⟨hi, rfl⟩ := List.getElem?_eq_some_iff.1 hx
    simp only [List.length_range] at hi ho
    simp only [List.getElem_range]
    exact h i out hi ho)
  rwa [List.length_range] at this
/-! ### the events -/
def evX (t : Temporal) (L : List Launch) (x : Nat × Bool) : simulate_Event := ⟨tmH t L x, (x.1 : Int), x.2⟩
def evE (t : Temporal) (L : List Launch) (a : Int) (e : Bool) : List (Nat × Bool) := ((List.range L.length).filter fun i => decide (tmH t L (i, e) = a)).map fun i => (i, e)
def evI (t : Temporal) (L : List Launch) (a : Int) : List (Nat × Bool) := evE t L a true ++ evE t L a false
def evT (t : Temporal) (L : List Launch) (a : Int) : List simulate_Event := (evI t L a).map (evX t L)
def unE (e : simulate_Event) : Nat × Bool := (e.Launch.toNat, e.End)
theorem unE_ev (t : Temporal) (L : List Launch) (x : Nat × Bool) : unE (evX t L x) = x := by simp [unE, evX]
section
variable {t : Temporal} {L : List Launch} {a : Int}
theorem mem_evE {e : Bool} {x : Nat × Bool} : x ∈ evE t L a e ↔ x.1 < L.length ∧ tmH t L x = a ∧ x.2 = e := by
  unfold evE
  rw [List.mem_map]
  constructor
  · rintro ⟨i, hi, rfl⟩
    simp only [List.mem_filter, List.mem_range, decide_eq_true_eq] at hi
    exact ⟨hi.1, hi.2, rfl⟩
  · rintro ⟨h1, h2, rfl⟩
    exact ⟨x.1, by simp [h1, h2], rfl⟩
theorem mem_evI {x : Nat × Bool} : x ∈ evI t L a ↔ x.1 < L.length ∧ tmH t L x = a := by
  unfold evI
  rw [List.mem_append, mem_evE, mem_evE]
  constructor
  · rintro (⟨h1, h2, _⟩ | ⟨h1, h2, _⟩) <;> exact ⟨h1, h2⟩
  · rintro ⟨h1, h2⟩
    cases h : x.2
    · exact .inr ⟨h1, h2, rfl⟩
    · exact .inl ⟨h1, h2, rfl⟩
theorem evE_len (e : Bool) : (evE t L a e).length ≤ L.length := by
  unfold evE
  rw [List.length_map]
  have := List.length_filter_le (fun i => decide (tmH t L (i, e) = a)) (List.range L.length)
  simpa using this
theorem evI_len : (evI t L a).length ≤ 2 * L.length := by
  unfold evI
  rw [List.length_append]
  have := evE_len (t := t) (L := L) (a := a) true
  have := evE_len (t := t) (L := L) (a := a) false
  omega
/-- The order of what happens at one time. -/
def Od (x y : Nat × Bool) : Prop := (x.2 = true ∧ y.2 = false) ∨ x.2 = y.2 ∧ x.1 < y.1
theorem evI_od : (evI t L a).Pairwise Od := by
  have h : ∀ e, (evE t L a e).Pairwise Od := fun e => by
    unfold evE
    rw [List.pairwise_map]
    exact (List.pairwise_lt_range.filter _).imp fun h => .inr ⟨rfl, h⟩
  refine List.pairwise_append.2 ⟨h true, h false, fun x hx y hy => ?_⟩
  exact .inl ⟨(mem_evE.1 hx).2.2, (mem_evE.1 hy).2.2⟩
theorem Od.irr {x : Nat × Bool} (h : Od x x) : False := by
  rcases h with h | h
  · rw [h.1] at h; simp at h
  · omega
theorem evI_nodup : (evI t L a).Nodup := evI_od.imp fun h e => by subst e; exact h.irr
/-! ### the canonical order -/
theorem mem_cnJ {e : Bool} {j : Nat} {x : Nat × Bool} : x ∈ cnJ t L a e j ↔ x.1 < L.length ∧ tmH t L x = a ∧ x.2 = e ∧ (lau L x.1).Job = (j : Int) := by
  unfold cnJ
  rw [List.mem_map]
  constructor
  · rintro ⟨i, hi, rfl⟩
    simp only [List.mem_filter, List.mem_range, decide_eq_true_eq] at hi
    exact ⟨hi.1, hi.2.2, rfl, hi.2.1⟩
  · rintro ⟨h1, h2, rfl, h3⟩
    exact ⟨x.1, by simp [h1, h2, h3], rfl⟩
theorem mem_cnE (hA : Acc t L) {e : Bool} {x : Nat × Bool} : x ∈ cnE t L a e ↔ x.1 < L.length ∧ tmH t L x = a ∧ x.2 = e := by
  unfold cnE
  rw [List.mem_flatMap]
  constructor
  · rintro ⟨j, _, hx⟩
    have := mem_cnJ.1 hx
    exact ⟨this.1, this.2.1, this.2.2.1⟩
  · rintro ⟨h1, h2, h3⟩
    have hk := hA.ok _ (lau_mem h1)
    have := hk.j0; have := hk.j1
    exact ⟨(lau L x.1).Job.toNat, by simp; omega, mem_cnJ.2 ⟨h1, h2, h3, by omega⟩⟩
theorem mem_cn (hA : Acc t L) {x : Nat × Bool} : x ∈ cn t L a ↔ x.1 < L.length ∧ tmH t L x = a := by
  unfold cn
  rw [List.mem_append, mem_cnE hA, mem_cnE hA]
  constructor
  · rintro (⟨h1, h2, _⟩ | ⟨h1, h2, _⟩) <;> exact ⟨h1, h2⟩
  · rintro ⟨h1, h2⟩
    cases h : x.2
    · exact .inr ⟨h1, h2, rfl⟩
    · exact .inl ⟨h1, h2, rfl⟩
def WoX (L : List Launch) (x y : Nat × Bool) : Prop := (x.2 = true ∧ y.2 = false) ∨ x.2 = y.2 ∧ ((lau L x.1).Job < (lau L y.1).Job ∨ (lau L x.1).Job = (lau L y.1).Job ∧ x.1 < y.1)
theorem WoX.irr {x : Nat × Bool} (h : WoX L x x) : False := by
  rcases h with h | h
  · rw [h.1] at h; simp at h
  · omega
theorem WoX.asy {x y : Nat × Bool} (h : WoX L x y) (h' : WoX L y x) : False := by
  unfold WoX at h h'
  rcases h with h | h <;> rcases h' with h' | h'
  · rw [h.1] at h'; simp at h'
  · rw [h.1, h.2] at h'; simp at h'
  · rw [h'.1, h'.2] at h; simp at h
  · omega
theorem Wo_iff {x y : Nat × Bool} : Wo L (evX t L x) (evX t L y) ↔ WoX L x y := by
  unfold Wo WoX rkE jobE evX
  simp only [Int.toNat_natCast]
  cases x.2 <;> cases y.2 <;> simp
theorem cn_wo : (cn t L a).Pairwise (WoX L) := by
  have hJ : ∀ e j, (cnJ t L a e j).Pairwise (WoX L) := fun e j => by
    unfold cnJ
    rw [List.pairwise_map]
    refine List.Pairwise.imp_of_mem (R := fun a b : Nat => a < b) (fun {i k} hi hk h => ?_) (List.pairwise_lt_range.filter _)
    simp only [List.mem_filter, decide_eq_true_eq] at hi hk
    exact .inr ⟨rfl, .inr ⟨by rw [hi.2.1, hk.2.1], h⟩⟩
  have hE : ∀ e, (cnE t L a e).Pairwise (WoX L) := fun e => by
    unfold cnE
    refine List.pairwise_flatMap.2 ⟨fun j _ => hJ e j, List.pairwise_lt_range.imp fun {i k} hik x hx y hy => ?_⟩
    have h1 := mem_cnJ.1 hx
    have h2 := mem_cnJ.1 hy
    exact .inr ⟨by rw [h1.2.2.1, h2.2.2.1], .inl (by rw [h1.2.2.2, h2.2.2.2]; omega)⟩
  have hm : ∀ e x, x ∈ cnE t L a e → x.2 = e := fun e x hx => by
    unfold cnE at hx
    obtain ⟨j, _, h⟩ := List.mem_flatMap.1 hx
    exact (mem_cnJ.1 h).2.2.1
  exact List.pairwise_append.2 ⟨hE true, hE false, fun x hx y hy => .inl ⟨hm _ _ hx, hm _ _ hy⟩⟩
theorem cn_nodup : (cn t L a).Nodup := cn_wo.imp fun h e => by subst e; exact h.irr
theorem cn_perm (hA : Acc t L) : (cn t L a).Perm (evI t L a) := (List.perm_ext_iff_of_nodup cn_nodup evI_nodup).2 fun x => by rw [mem_cn hA, mem_evI]
/-! ### what writing does -/
theorem setF_get : ∀ (fs : List Fact) (s : List Int) (v : Nat), (∀ f ∈ fs, 0 ≤ f.Var) → v < s.length → (∃ f ∈ fs, f.Var = (v : Int) ∧ (setF fs s)[v]? = some f.Val) ∨ ((∀ f ∈ fs, f.Var ≠ (v : Int)) ∧ (setF fs s)[v]? = s[v]?)
  | [], s, v, _, _ => .inr ⟨by simp, rfl⟩
  | f :: fs, s, v, h, hv => by
    have e : setF (f :: fs) s = setF fs (s.set f.Var.toNat f.Val) := rfl
    rw [e]
    have h0 := h f (by simp)
    rcases setF_get fs (s.set f.Var.toNat f.Val) v (fun g hg => h g (List.mem_cons_of_mem _ hg)) (by simpa using hv) with ⟨g, g1, g2⟩ | ⟨g1, g2⟩
    · exact .inl ⟨g, List.mem_cons_of_mem _ g1, g2⟩
    · by_cases c : f.Var = (v : Int)
      · refine .inl ⟨f, by simp, c, ?_⟩
        have : f.Var.toNat = v := by omega
        rw [g2, this, List.getElem?_set_self hv]
      · refine .inr ⟨fun x hx => ?_, ?_⟩
        · rcases List.mem_cons.1 hx with rfl | hx
          · exact c
          · exact g1 x hx
        · rw [g2, List.getElem?_set_ne (by omega)]
theorem wrAll_get : ∀ (xs : List (Nat × Bool)) (s : List Int) (v : Nat), (∀ x ∈ xs, ∀ f ∈ wrX t L x, 0 ≤ f.Var) → v < s.length → (∃ x ∈ xs, ∃ f ∈ wrX t L x, f.Var = (v : Int) ∧ (wrAll t L xs s)[v]? = some f.Val) ∨ ((∀ x ∈ xs, ∀ f ∈ wrX t L x, f.Var ≠ (v : Int)) ∧ (wrAll t L xs s)[v]? = s[v]?)
  | [], s, v, _, _ => .inr ⟨by simp, rfl⟩
  | x :: xs, s, v, h, hv => by
    have e : wrAll t L (x :: xs) s = wrAll t L xs (setF (wrX t L x) s) := rfl
    rw [e]
    rcases wrAll_get xs (setF (wrX t L x) s) v (fun y hy => h y (List.mem_cons_of_mem _ hy)) (by rw [setF_len]; exact hv) with ⟨y, g1, g2⟩ | ⟨g1, g2⟩
    · exact .inl ⟨y, List.mem_cons_of_mem _ g1, g2⟩
    · rcases setF_get (wrX t L x) s v (h x (by simp)) hv with ⟨f, k1, k2, k3⟩ | ⟨k1, k2⟩
      · exact .inl ⟨x, by simp, f, k1, k2, g2.trans k3⟩
      · refine .inr ⟨fun y hy => ?_, g2.trans k2⟩
        rcases List.mem_cons.1 hy with rfl | hy
        · exact k1
        · exact g1 y hy
theorem wrAll_aft (hA : Acc t L) {xs : List (Nat × Bool)} (hx : ∀ x, x ∈ xs ↔ x.1 < L.length ∧ tmH t L x = a) {s : List Int} (hs : s.length = t.Vars.length) : AftOK t L a s (wrAll t L xs s) := by
  refine ⟨wrAll_len _ _ _ _, fun v hv => ?_⟩
  rcases wrAll_get (t := t) (L := L) xs s v (fun x hx' f hf => (wrX_rng hA ((hx x).1 hx').1 hs f hf).1) hv with ⟨x, h1, f, h2, h3, h4⟩ | ⟨h1, h2⟩
  · exact .inl ⟨x, ((hx x).1 h1).1, ((hx x).1 h1).2, f, h2, h3, h4⟩
  · exact .inr ⟨fun x g1 g2 => h1 x ((hx x).2 ⟨g1, g2⟩), h2⟩
theorem aftX_aft (hA : Acc t L) {s : List Int} (hs : s.length = t.Vars.length) : AftOK t L a s (aftX t L a s) := wrAll_aft hA (fun x => mem_cn hA) hs
theorem aftX_len (s : List Int) : (aftX t L a s).length = s.length := wrAll_len _ _ _ _
theorem hap_eq (j : Job) (e : Bool) : simulate_happening_t j e = (rdH j e, wrH j e) := by
  unfold simulate_happening_t rdH wrH; cases e <;> rfl
theorem runjob_ok (hA : Acc t L) {o : simulate_Report} {x : Nat × Bool} (hx : x.1 < L.length) : simulate_run_job_p ⟨t, L, o⟩ (evX t L x) = some (jH t L x) := by
  unfold simulate_run_job_p evX
  simp only
  rw [idx_nat, lau_get hx, Option.bind_some, jb_idx (hA.ok _ (lau_mem hx))]
  rfl
theorem write_ok {fu : Nat} (hfu : 1000 ≤ fu) (hA : Acc t L) (hn : L.length ≤ 40) {o : simulate_Report} {s : List Int} (hs : s.length = t.Vars.length) :
    Ok (simulate_run_write_p fu ⟨t, L, o⟩ s (evT t L a)) fun s' => AftOK t L a s s' ∧ ((evT t L a).length ≤ 20 → s' = aftX t L a s) := by
  have hlen : (evT t L a).length ≤ 80 := by
    unfold evT; rw [List.length_map]; have := evI_len (t := t) (L := L) (a := a); omega
  have hEv : EvA L (evT t L a) := fun e he => by
    obtain ⟨x, hx, rfl⟩ := List.mem_map.1 he
    have := (mem_evI.1 hx).1
    exact ⟨by simp [evX], by simp [evX]; exact this⟩
  have hpre : (evT t L a).Pairwise Pr0 := by
    unfold evT
    rw [List.pairwise_map]
    refine evI_od.imp fun {x y} h hr => ?_
    rcases h with h | h
    · simp [rkE, evX, h.1, h.2] at hr
    · simp only [evX]; omega
  unfold simulate_run_write_p slices_Clone_simulateEvent_p slices_Clone_int_p
  refine Ok.bind (Ok.step (app_ok (by simp; omega)) ⟨_, rfl, ?_⟩)
  rw [List.nil_append]
  refine Ok.bind ((stable_ok (c := ⟨t, L, o⟩) hfu (by omega) hEv hpre).mono fun l hl => ?_)
  obtain ⟨hp, hw⟩ := hl
  refine Ok.bind (Ok.step (app_ok (by simp; have := hA.chk.vars; omega)) ⟨_, rfl, ?_⟩)
  rw [List.nil_append]
  -- what was sorted
  obtain ⟨xs, rfl, hxs⟩ : ∃ xs : List (Nat × Bool), l = xs.map (evX t L) ∧ xs.Perm (evI t L a) := by
    refine ⟨l.map unE, ?_, ?_⟩
    · rw [List.map_map]
      symm
      refine (List.map_congr_left (fun e he => ?_)).trans (List.map_id l)
      obtain ⟨x, _, rfl⟩ := List.mem_map.1 (hp.mem_iff.1 he)
      simp only [Function.comp, unE_ev, id]
    · have := hp.map unE
      unfold evT at this
      rw [List.map_map, show (unE ∘ evX t L) = id from funext fun x => unE_ev t L x, List.map_id] at this
      exact this
  have hmem : ∀ x, x ∈ xs ↔ x.1 < L.length ∧ tmH t L x = a := fun x => by rw [hxs.mem_iff, mem_evI]
  have hloop : forS (fun i100 => fun (l102 : (List Int)) => (idx (xs.map (evX t L)) (i100 : Int)).bind fun x101 =>
      (simulate_run_job_p ⟨t, L, o⟩ x101).bind <| fun (y102 : Job) =>
      (forS (fun i101 => fun (l103 : (List Int)) => (idx ((simulate_happening_t y102 x101.End).2) (i101 : Int)).bind fun x102 =>
      (idx l103 x102.Var).bind fun x103 =>
      (setI l103 x102.Var x102.Val).bind fun l104 =>
      some l104) (((simulate_happening_t y102 x101.End).2).length) 0 l102).bind (fun (l103 : (List Int)) => some l103)) ((xs.map (evX t L)).length) 0 s = some (wrAll t L xs s) := by
    rw [List.length_map]
    refine Ok.eq (Ok.forL (fun ys s' => s' = wrAll t L ys s) rfl ?_ fun s' h => h)
    rintro j ys x s1 hx rfl rfl
    have hm := (hmem x).1 (List.mem_of_getElem? hx)
    have hl1 : (wrAll t L (xs.take j) s).length = t.Vars.length := by rw [wrAll_len, hs]
    refine Ok.step (a := evX t L x) (by rw [idx_nat, List.getElem?_map, hx]; rfl) (Ok.step (runjob_ok hA hm.1) ?_)
    have e : (simulate_happening_t (jH t L x) (evX t L x).End).2 = wrX t L x := by rw [hap_eq]; rfl
    rw [e, facts_eq (wrX_rng hA hm.1 hl1)]
    refine ⟨_, rfl, ?_⟩
    rw [wrAll_append]; rfl
  rw [hloop]
  refine ⟨_, rfl, wrAll_aft hA hmem hs, fun h20 => ?_⟩
  have hw1 : xs.Pairwise (WoX L) := by
    have := hw h20
    rw [List.pairwise_map] at this
    exact this.imp fun h => Wo_iff.1 h
  have : xs = cn t L a := List.Perm.eq_of_pairwise (le := WoX L) (fun x y _ _ h h' => (h.asy h').elim) hw1 cn_wo (hxs.trans (cn_perm hA).symm)
  rw [this]; rfl
end
end Go.Pw
