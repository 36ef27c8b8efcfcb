/-
  My walk's base, part 39: a drawn region walked in one order, where some quiet operations are steps of their own.
-/
import Derived.Test.YtkfcbmecmdpilaaL10
set_option linter.unusedSimpArgs false
set_option linter.unusedVariables false
namespace Go.Pw
def isQZ (Z : List Nat) (n0 : Nat) (ops : List Oper) (i : Nat) : Bool := isQ n0 ops i && !Z.contains i
def tmpOKZ (Z : List Nat) (n0 : Nat) (ops : List Oper) (i : Nat) (o : Oper) (u : Nat) : Bool := ((List.range n0).all fun k => !dstIs ops k u || (!isQZ Z n0 ops k && (match ops[k]? with | some ok => (deps ok).contains i | none => false))) || (deps o).any fun k => Nat.blt k n0 && dstIs ops k u
def opndsOKZ (Z : List Nat) (n0 : Nat) (ops : List Oper) (i : Nat) (o : Oper) : Bool :=
  (o.op.operands.toList.all fun x => match x with | .tmp u => tmpOKZ Z n0 ops i o u | _ => true) && (match o.guard with | some (j, _) => (deps o).contains j && Nat.blt j n0 | none => true) && noSel o
def stageOKZ (Z : List Nat) (n0 : Nat) (ops : List Oper) (T : List (List Nat)) (nx : List Nat) (qd ed : List Nat) : Bool :=
  (List.range n0).all fun i => qd.contains i || ed.contains i || nx.contains i || (ancOf T i).any fun j => !isQZ Z n0 ops j && !qd.contains j && !ed.contains j
def planOKZ (Z : List Nat) (n0 : Nat) (ops : List Oper) (T : List (List Nat)) : DPlan → Option (List Nat) → List Nat → List Nat → Bool
  | .done, nx, qd, ed => nx.isNone && (List.range n0).all fun i => qd.contains i || ed.contains i
  | .q i r, nx, qd, ed => nx.isNone && Nat.blt i n0 && (match ops[i]? with
    | some o => isQZ Z n0 ops i && quietOp o && !qd.contains i && ((deps o).all fun j => qd.contains j || ed.contains j) && opndsOKZ Z n0 ops i o
    | none => false) && planOKZ Z n0 ops T r none (i :: qd) ed
  | .e i ag r, nx, qd, ed => Nat.blt i n0 && (match ops[i]? with
    | some o => !isQZ Z n0 ops i && !ed.contains i && ((deps o).all fun j => qd.contains j || ed.contains j) && opndsOKZ Z n0 ops i o
    | none => false) && stageOKZ Z n0 ops T (nx.getD [i]) qd ed && (qd.all fun j => ag.contains j || (ancOf T i).contains j || ed.any fun k => (ancOf T k).contains j) && planOKZ Z n0 ops T r none qd (i :: ed)
  | .alt p q, nx, qd, ed => planOKZ Z n0 ops T p (some (nx.getD (firsts p ++ firsts q))) qd ed && planOKZ Z n0 ops T q (some (nx.getD (firsts p ++ firsts q))) qd ed
def dlOKZ (Z : List Nat) (n0 : Nat) (ops : List Oper) (p : DPlan) : Bool := let T := ancTab ops; closedT ops T && Nat.beq T.length ops.length && planOKZ Z n0 ops T p none [] []
theorem tmp_agrZ {Z : List Nat} {n0 : Nat} {ops : List Oper} {i : Nat} {o : Oper} {u : Nat} {S : Nat → Prop} {g g' : Fr} (h : tmpOKZ Z n0 ops i o u = true) (hS : ∀ j ∈ deps o, S j) (hA : ∀ k ok, k < n0 → isQZ Z n0 ops k = false → ops[k]? = some ok → i ∈ deps ok → S k) (ha : Agr n0 ops S g g') : g u = g' u := by
  simp only [tmpOKZ, Bool.or_eq_true, List.all_eq_true, List.mem_range, Bool.not_eq_true', List.any_eq_true, Bool.and_eq_true] at h
  rcases h with h | ⟨k, hk, hk0, hd⟩
  · by_cases hn : ∀ k, k < n0 → dstIs ops k u = false
    · exact ha.1 u hn
    · obtain ⟨k, hk, hd⟩ : ∃ k, k < n0 ∧ dstIs ops k u = true := by
        refine Classical.byContradiction fun hc => hn fun k hk => ?_
        cases hd : dstIs ops k u with
        | false => rfl
        | true => exact absurd ⟨k, hk, hd⟩ hc
      rcases h k hk with h | ⟨h1, h2⟩
      · rw [hd] at h; cases h
      · cases hok : ops[k]? with
        | none => rw [hok] at h2; cases h2
        | some ok =>
          rw [hok] at h2
          exact ha.2 k u hk (hA k ok hk h1 hok (by simpa using h2)) hd
  · exact ha.2 k u (by simpa [Nat.blt_eq] using hk0) (hS k hk) hd
theorem opnds_evZ {Z : List Nat} {n0 : Nat} {ops : List Oper} {i : Nat} {o : Oper} {S : Nat → Prop} {g g' : Fr} (h : opndsOKZ Z n0 ops i o = true) (hS : ∀ j ∈ deps o, S j) (hA : ∀ k ok, k < n0 → isQZ Z n0 ops k = false → ops[k]? = some ok → i ∈ deps ok → S k) (ha : Agr n0 ops S g g') : execOp (ev g) o = execOp (ev g') o := by
  simp only [opndsOKZ, Bool.and_eq_true, List.all_eq_true] at h
  refine execOp_congr o ?_ ?_
  · intro cs b he; have := h.2; simp [noSel, he] at this
  · intro x hx
    have := h.1.1 x (by simpa using hx)
    cases x with
    | tmp u => exact tmp_agrZ this hS hA ha
    | _ => rfl
theorem opnds_wantZ {Z : List Nat} {n0 : Nat} {ops : List Oper} {i : Nat} {o : Oper} {S : Nat → Prop} {g g' : Fr} (h : opndsOKZ Z n0 ops i o = true) (hS : ∀ j ∈ deps o, S j) (ha : Agr n0 ops S g g')  :
    Region.wanted o (yieldedF ops.toArray g) = Region.wanted o (yieldedF ops.toArray g') := by
  simp only [opndsOKZ, Bool.and_eq_true] at h
  unfold Region.wanted
  cases hg : o.guard with
  | none => rfl
  | some gw =>
    obtain ⟨j, want⟩ := gw
    have h2 := h.1.2
    simp only [hg, Bool.and_eq_true] at h2
    have hj : j ∈ deps o := by simpa using h2.1
    have hj0 : j < n0 := by simpa [Nat.blt_eq] using h2.2
    have : yieldedF ops.toArray g j = yieldedF ops.toArray g' j := by
      unfold yieldedF
      cases hd : (ops.toArray[j]?).bind (·.dst) with
      | none => rfl
      | some d =>
        have e1 : dstIs ops j d = true := by
          unfold dstIs
          have : (ops[j]?).bind (·.dst) = some d := by simpa using hd
          rw [this]; simp
        have he := ha.2 j d hj0 (hS j hj) e1
        simp only [he]
    simp only [this]
structure CanonZ (Z : List Nat) (P : Program) (n0 : Nat) (ops : List Oper) (T : List (List Nat)) (K : Fr → World → Prop) (p : DPlan) (gk : Fr) (w : World) (qd ed : List Nat) (dn : Nat → Bool) : Prop where
  ok : planOKZ Z n0 ops T p none qd ed = true
  dl : DL P ops K p gk w
  nq : ∀ i ∈ qd, i < n0 ∧ isQZ Z n0 ops i = true ∧ ∃ o, ops[i]? = some o ∧ quietOp o = true ∧ opndsOKZ Z n0 ops i o = true ∧ ∀ j ∈ deps o, j ∈ qd ∨ j ∈ ed
  ne : ∀ i ∈ ed, i < n0 ∧ isQZ Z n0 ops i = false
  ag : ∀ i ∈ qd, dn i = false → AgainAt P ops gk w i
theorem isQ_dstZ {Z : List Nat} {n0 : Nat} {ops : List Oper} {i : Nat} {o : Oper} (h : isQZ Z n0 ops i = true) (ho : ops[i]? = some o) : ∃ d, o.dst = some d := by
  unfold isQZ at h
  exact isQ_dst (by simp only [Bool.and_eq_true] at h; exact h.1) ho
theorem again_agrZ {Z : List Nat} {P : Program} {n0 : Nat} {ops : List Oper} {S : Nat → Prop} {g g' : Fr} {w : World} {j : Nat} {o : Oper} (hj : j < n0) (ho : ops[j]? = some o) (hk : opndsOKZ Z n0 ops j o = true) (hS : ∀ k ∈ deps o, S k) (hA : ∀ k ok, k < n0 → isQZ Z n0 ops k = false → ops[k]? = some ok → j ∈ deps ok → S k) (hSj : S j) (hd : ∃ d, o.dst = some d) (ha : Agr n0 ops S g g') (h : AgainAt P ops g w j) : AgainAt P ops g' w j := by
  intro o' ho'
  rw [ho] at ho'
  cases ho'
  have h1 := h o ho
  obtain ⟨d, hd⟩ := hd
  have hval : g (dstAt ops j) = g' (dstAt ops j) := by rw [dstAt_of ho hd]; exact ha.2 j d hj hSj (dstIs_of ho hd)
  rw [opnds_wantZ hk hS ha, hval] at h1
  split
  · rename_i hw
    rw [if_pos hw] at h1
    exact exec_congr (opnds_evZ hk hS hA ha) h1
  · rename_i hw
    rw [if_neg hw] at h1
    exact h1
theorem CanonAdvZ {Z : List Nat} {P : Program} {n0 : Nat} {ops : List Oper} {T : List (List Nat)} {K : Fr → World → Prop} (hI : DInj n0 ops) {w : World} {ed : List Nat} {dn : Nat → Bool} : ∀ (p : DPlan) (gk : Fr) (qd : List Nat), CanonZ Z P n0 ops T K p gk w qd ed dn →
    ∃ p' gk' qd', CanonZ Z P n0 ops T K p' gk' w qd' ed dn ∧ notQ p' ∧ (∀ i ∈ qd, i ∈ qd') ∧ Agr n0 ops (fun i => (i ∈ qd ∨ i ∈ ed) ∨ isQZ Z n0 ops i = false) gk gk'
  | .done, gk, qd, h => ⟨.done, gk, qd, h, trivial, fun _ h => h, fun _ _ => rfl, fun _ _ _ _ _ => rfl⟩
  | .alt p q, gk, qd, h => ⟨.alt p q, gk, qd, h, trivial, fun _ h => h, fun _ _ => rfl, fun _ _ _ _ _ => rfl⟩
  | .e i ag r, gk, qd, h => ⟨.e i ag r, gk, qd, h, trivial, fun _ h => h, fun _ _ => rfl, fun _ _ _ _ _ => rfl⟩
  | .q i r, gk, qd, h => by
    obtain ⟨o, ho, hdl⟩ := h.dl
    have hok := h.ok
    simp only [planOKZ, Bool.and_eq_true, ho] at hok
    obtain ⟨⟨⟨_, hi⟩, ⟨⟨⟨hiq, hq⟩, hnq⟩, hdep⟩, hopn⟩, hrest⟩ := hok
    have hi' : i < n0 := by simpa [Nat.blt_eq] using hi
    have hnq' : i ∉ qd := by simpa using hnq
    have hne : i ∉ ed := fun hm => by have := (h.ne i hm).2; rw [hiq] at this; cases this
    have hnS : ¬ ((i ∈ qd ∨ i ∈ ed) ∨ isQZ Z n0 ops i = false) := by
      rintro ((h | h) | h)
      · exact hnq' h
      · exact hne h
      · rw [hiq] at h; cases h
    have hdeps : ∀ j ∈ deps o, j ∈ qd ∨ j ∈ ed := by
      intro j hj
      have := List.all_eq_true.1 hdep j hj
      simpa using this
    obtain ⟨d, hd⟩ := isQ_dstZ hiq ho
    have key : ∀ v, (∀ g', g' = updo gk o.dst v → AgainAt P ops g' w i) → DL P ops K r (updo gk o.dst v) w → ∃ p' gk' qd', CanonZ Z P n0 ops T K p' gk' w qd' ed dn ∧ notQ p' ∧ (∀ i ∈ qd, i ∈ qd') ∧ Agr n0 ops (fun i => (i ∈ qd ∨ i ∈ ed) ∨ isQZ Z n0 ops i = false) gk gk' := by
      intro v hag hdl
      have hA : Agr n0 ops (fun i => (i ∈ qd ∨ i ∈ ed) ∨ isQZ Z n0 ops i = false) gk (updo gk o.dst v) := agr_upd hI hi' ho hnS
      have hc1 : CanonZ Z P n0 ops T K r (updo gk o.dst v) w (i :: qd) ed dn := by
        refine ⟨hrest, hdl, ?_, h.ne, ?_⟩
        · intro j hj
          rcases List.mem_cons.1 hj with e | hj
          · rw [e]; exact ⟨hi', hiq, o, ho, hq, hopn, fun k hk => (hdeps k hk).imp (List.mem_cons_of_mem _) (fun h => h)⟩
          · obtain ⟨hj0, hjq, oj, hoj, hqj, hopj, hdj⟩ := h.nq j hj
            exact ⟨hj0, hjq, oj, hoj, hqj, hopj, fun k hk => (hdj k hk).imp (List.mem_cons_of_mem _) (fun h => h)⟩
        · intro j hj hdn
          rcases List.mem_cons.1 hj with e | hj
          · rw [e]; exact hag _ rfl
          · obtain ⟨hj0, hjq, oj, hoj, hqj, hopj, hdj⟩ := h.nq j hj
            exact again_agrZ (S := fun i => (i ∈ qd ∨ i ∈ ed) ∨ isQZ Z n0 ops i = false) hj0 hoj hopj (fun k hk => .inl (hdj k hk)) (fun _ _ _ hk _ _ => .inr hk) (.inl (.inl hj)) (isQ_dstZ hjq hoj) hA (h.ag j hj hdn)
      obtain ⟨p', gk', qd', hc, h1, h2, h3⟩ := CanonAdvZ hI r (updo gk o.dst v) (i :: qd) hc1
      exact ⟨p', gk', qd', hc, h1, fun j hj => h2 j (List.mem_cons_of_mem _ hj), hA.trans h3 (fun j hj => hj.imp (fun h => h.imp (List.mem_cons_of_mem _) (fun h => h)) (fun h => h))⟩
    have hA : ∀ v, Agr n0 ops (fun i => (i ∈ qd ∨ i ∈ ed) ∨ isQZ Z n0 ops i = false) gk (updo gk o.dst v) := fun v => agr_upd hI hi' ho hnS
    have hval : ∀ v, updo gk o.dst v (dstAt ops i) = v := fun v => by rw [dstAt_of ho hd, hd]; simp only [updo, upd_same]
    have hd2 : ∀ j ∈ deps o, (j ∈ qd ∨ j ∈ ed) ∨ isQZ Z n0 ops j = false := fun j hj => .inl (hdeps j hj)
    split at hdl
    · rename_i hw
      obtain ⟨v, w', hrun, rfl, hr⟩ := quiet_exec hq hdl
      refine key v ?_ hr
      rintro g' rfl o' ho'
      rw [ho] at ho'; cases ho'
      rw [← opnds_wantZ hopn hd2 (hA v), if_pos hw]
      refine .of_run (v := v) ?_ ⟨rfl, (hval v).symm⟩
      rw [← opnds_evZ hopn hd2 (fun _ _ _ hk _ _ => .inr hk) (hA v)]
      exact hrun
    · rename_i hw
      refine key undef ?_ hdl
      rintro g' rfl o' ho'
      rw [ho] at ho'; cases ho'
      rw [← opnds_wantZ hopn hd2 (hA undef), if_neg hw]
      exact hval undef
section
variable {P : Program} {n0 : Nat} {ops : List Oper} {T : List (List Nat)} {K : Fr → World → Prop} {gk : Fr} {w : World} {qd ed : List Nat}
theorem alt_specZ {Z : List Nat} : ∀ (p : DPlan) (l : List Nat), planOKZ Z n0 ops T p (some l) qd ed = true → DL P ops K p gk w →
    stageOKZ Z n0 ops T l qd ed = true ∧ firsts p ≠ [] ∧ ∀ i ∈ firsts p, ∃ ag r, planOKZ Z n0 ops T (.e i ag r) (some l) qd ed = true ∧ DL P ops K (.e i ag r) gk w
  | .done, l, h, _ => by simp [planOKZ] at h
  | .q i r, l, h, _ => by simp [planOKZ] at h
  | .e i ag r, l, h, hd => by
    refine ⟨?_, by simp [firsts], ?_⟩
    · simp only [planOKZ, Bool.and_eq_true, Option.getD_some] at h
      exact h.1.1.2
    · intro j hj
      simp only [firsts, List.mem_singleton] at hj
      subst hj
      exact ⟨ag, r, h, hd⟩
  | .alt p q, l, h, hd => by
    simp only [planOKZ, Bool.and_eq_true, Option.getD_some] at h
    obtain ⟨a1, a2, a3⟩ := alt_specZ p l h.1 hd.1
    obtain ⟨b1, b2, b3⟩ := alt_specZ q l h.2 hd.2
    refine ⟨a1, by simp [firsts, a2], ?_⟩
    intro j hj
    simp only [firsts, List.mem_append] at hj
    rcases hj with hj | hj
    · exact a3 j hj
    · exact b3 j hj
theorem node_specZ {Z : List Nat} (p : DPlan) (hn : notQ p) (h : planOKZ Z n0 ops T p none qd ed = true) (hd : DL P ops K p gk w) :
    p = .done ∨ (stageOKZ Z n0 ops T (firsts p) qd ed = true ∧ firsts p ≠ [] ∧ ∀ i ∈ firsts p, ∃ ag r, planOKZ Z n0 ops T (.e i ag r) (some (firsts p)) qd ed = true ∧ DL P ops K (.e i ag r) gk w) := by
  cases p with
  | done => exact .inl rfl
  | q => exact hn.elim
  | e i ag r =>
    refine .inr ?_
    exact alt_specZ (.e i ag r) [i] (by simpa only [planOKZ, Option.getD_some, Option.getD_none] using h) hd
  | alt p q =>
    refine .inr ?_
    exact alt_specZ (.alt p q) (firsts p ++ firsts q) (by simpa only [planOKZ, Option.getD_some, Option.getD_none] using h) hd
end
section
variable {P : Program} {N : Nat} {Q : Post} {f : Fr} {w : World}
theorem W_dlZ {Z : List Nat} {id n0 : Nat} {ops : List Oper} (p : DPlan) (hm : P.follows .mixedOrders = true) (hok : drawOK2 N n0 ops = true) (hp : dlOKZ Z n0 ops p = true)
    (h : DL P ops (fun g w' => WL P N ops.toArray Q (ops.drop n0) g w') p f w.drew) : W P N (.region id ops.toArray true) Q f w := by
  have hok0 := hok
  simp only [drawOK2, Bool.and_eq_true, decide_eq_true_eq, List.all_eq_true, Bool.or_eq_true] at hok
  obtain ⟨⟨⟨⟨⟨hn0, hwait⟩, hdst⟩, _⟩, hnodup⟩, hback⟩ := hok
  have hn0' : n0 ≤ ops.length := by simpa [Nat.ble_eq] using hn0
  have hI : DInj n0 ops := by
    refine ⟨fun i hi => ⟨ops[i]'(by omega), by simp [show i < ops.length by omega]⟩, fun i j oi oj d hi hj hoi hoj hdi hdj => ?_⟩
    exact fm_inj (f := fun o : Oper => o.dst) hnodup (by rw [List.getElem?_take, if_pos hi]; exact hoi) (by rw [List.getElem?_take, if_pos hj]; exact hoj) hdi hdj
  have hb : ∀ (i : Nat) (o : Oper), ops[i]? = some o → ∀ j ∈ deps o, j < i := by
    intro i o ho j hj
    obtain ⟨e, he, hbi, rfl⟩ := mem_deps.1 hj
    have hi : i < ops.length := (List.getElem?_eq_some_iff.1 ho).1
    have := hback i (by simpa using hi)
    simp only [ho] at this
    have := Array.all_eq_true'.1 this e he
    simpa [Nat.blt_eq, hbi] using this
  simp only [dlOKZ, Bool.and_eq_true] at hp
  obtain ⟨⟨hT, _⟩, hpl⟩ := hp
  generalize ancTab ops = T at hT hpl
  let K : Fr → World → Prop := fun g w' => WL P N ops.toArray Q (ops.drop n0) g w'
  let I : (Nat → Bool) → Fr → World → Prop := fun dn g w => ∃ p gk qd ed, CanonZ Z P n0 ops T K p gk w qd ed dn ∧ notQ p ∧ (∀ i, dn i = true → i < n0 ∧ (i ∈ qd ∨ i ∈ ed)) ∧ (∀ i ∈ ed, dn i = true) ∧ Agr n0 ops (fun i => dn i = true ∨ isQZ Z n0 ops i = false) g gk ∧
    (∀ i o, dn i = true → ops[i]? = some o → ∀ j ∈ deps o, dn j = true)
  refine W_drawI hm hok0 I ?_ ?_ ?_
  · obtain ⟨p', gk', qd', hc, h1, _, h3⟩ := CanonAdvZ (P := P) (K := K) (T := T) hI (w := w.drew) (ed := []) (dn := fun _ => false) p f [] ⟨hpl, h, by simp, by simp, by simp⟩
    exact ⟨p', gk', qd', [], hc, h1, by simp, by simp, ⟨h3.1, fun i d hi hS hd => h3.2 i d hi (hS.elim (fun h => by cases h) .inr) hd⟩, by simp⟩
  · rintro i o dn g w hi ho hdn hdeps _ ⟨p, gk, qd, ed, hc, hnq, hd1, hd2, hagr, hdc⟩
    have hdepdn : ∀ j ∈ deps o, dn j = true := by
      intro j hj
      obtain ⟨e, he, hbi, rfl⟩ := mem_deps.1 hj
      exact hdeps e he hbi
    have hdepS : ∀ j ∈ deps o, dn j = true ∨ isQZ Z n0 ops j = false := fun j hj => .inl (hdepdn j hj)
    have hanc := anc_dn hT hdc hb i o ho hdepdn
    have hnoted : i ∉ ed := fun hm => by have := hd2 i hm; rw [hdn] at this; cases this
    -- an effect that is done is in ed
    have heff : ∀ j, isQZ Z n0 ops j = false → dn j = true → j ∈ ed := by
      intro j hj hjd
      rcases (hd1 j hjd).2 with hm | hm
      · have h5 := (hc.nq j hm).2.1
        rw [hj] at h5; cases h5
      · exact hm
    have hdc' : ∀ k ok, (if k = i then true else dn k) = true → ops[k]? = some ok → ∀ j ∈ deps ok, (if j = i then true else dn j) = true := by
      intro k ok hk hok j hj
      by_cases e : k = i
      · subst e
        rw [ho] at hok; cases hok
        have := hdepdn j hj
        split <;> first | rfl | exact this
      · rw [if_neg e] at hk
        have := hdc k ok hk hok j hj
        split <;> first | rfl | exact this
    have hnode := node_specZ p hnq hc.ok hc.dl
    have hstage : ∀ l, stageOKZ Z n0 ops T l qd ed = true → i ∈ qd ∨ i ∈ l := by
      intro l hst
      simp only [stageOKZ, List.all_eq_true, List.mem_range, Bool.or_eq_true, List.any_eq_true, Bool.and_eq_true] at hst
      rcases hst i hi with ((h | h) | h) | ⟨j, hj, ⟨he, _⟩, hn⟩
      · exact .inl (by simpa using h)
      · exact (hnoted (by simpa using h)).elim
      · exact .inr (by simpa using h)
      · have := heff j (by simpa using he) (hanc j hj)
        simp [this] at hn
    have hdoneq : planOKZ Z n0 ops T .done none qd ed = true → i ∈ qd := by
      intro hok
      simp only [planOKZ, Bool.and_eq_true, List.all_eq_true, List.mem_range, Bool.or_eq_true] at hok
      rcases hok.2 i hi with h | h
      · simpa using h
      · exact (hnoted (by simpa using h)).elim
    cases hq : isQZ Z n0 ops i with
    | true =>
      have hiq : i ∈ qd := by
        rcases hnode with e | ⟨hst, _, hsp⟩
        · subst e; exact hdoneq hc.ok
        · rcases hstage _ hst with h | h
          · exact h
          · obtain ⟨ag, r, hok, _⟩ := hsp i h
            simp [planOKZ, ho, hq] at hok
      obtain ⟨_, _, o', ho', _, hopn, _⟩ := hc.nq i hiq
      rw [ho] at ho'; cases ho'
      have hag := hc.ag i hiq hdn o ho
      obtain ⟨d, hd⟩ := isQ_dstZ hq ho
      rw [← opnds_wantZ hopn hdepS hagr] at hag
      have key : ∀ v, v = gk (dstAt ops i) → I (fun j => if j = i then true else dn j) (updo g o.dst v) w := by
        rintro v rfl
        refine ⟨p, gk, qd, ed, ⟨hc.ok, hc.dl, hc.nq, hc.ne, fun j hj hdj => hc.ag j hj ?_⟩, hnq, ?_, ?_, ⟨?_, ?_⟩, hdc'⟩
        · by_cases e : j = i
          · simp only [if_pos e] at hdj; cases hdj
          · simp only [if_neg e] at hdj; exact hdj
        · intro j hj
          by_cases e : j = i
          · rw [e]; exact ⟨hi, .inl hiq⟩
          · simp only [if_neg e] at hj; exact hd1 j hj
        · intro j hj
          by_cases e : j = i
          · simp only [if_pos e]
          · simp only [if_neg e]; exact hd2 j hj
        · intro n hn
          have hne : n ≠ d := by rintro rfl; have := hn i hi; rw [dstIs_of ho hd] at this; cases this
          rw [hd]; simp only [updo, upd_ne _ _ hne]
          exact hagr.1 n hn
        · intro j dj hj hjd hdj
          by_cases e : dj = d
          · subst e
            rw [hd, dstAt_of ho hd]; simp only [updo, upd_same]
          · have hji : j ≠ i := by
              rintro rfl
              obtain ⟨oj, hoj, hdj'⟩ := dstIs_dst hdj
              rw [ho] at hoj; cases hoj; rw [hd] at hdj'; cases hdj'; exact e rfl
            have hjd' : dn j = true ∨ isQZ Z n0 ops j = false := by simp only [if_neg hji] at hjd; exact hjd
            rw [hd]; simp only [updo, upd_ne _ _ e]
            exact hagr.2 j dj hj hjd' hdj
      split
      · rename_i hw
        rw [if_pos hw] at hag
        refine (exec_congr (opnds_evZ hopn hdepS (fun _ _ _ hk _ _ => .inr hk) hagr).symm hag).mono ?_
        rintro v w' ⟨rfl, hv⟩
        exact key v hv
      · rename_i hw
        rw [if_neg hw] at hag
        exact key undef hag.symm
    | false =>
      have hniq : i ∉ qd := fun hm => by have := (hc.nq i hm).2.1; rw [hq] at this; cases this
      obtain ⟨l, ag, r, hok, hdl⟩ : ∃ l ag r, planOKZ Z n0 ops T (.e i ag r) (some l) qd ed = true ∧ DL P ops K (.e i ag r) gk w := by
        rcases hnode with e | ⟨hst, _, hsp⟩
        · subst e; exact (hniq (hdoneq hc.ok)).elim
        · rcases hstage _ hst with h | h
          · exact (hniq h).elim
          · obtain ⟨ag, r, h1, h2⟩ := hsp i h; exact ⟨_, ag, r, h1, h2⟩
      simp only [planOKZ, Bool.and_eq_true] at hok
      obtain ⟨⟨⟨⟨_, hb'⟩, _⟩, hagq⟩, hrest⟩ := hok
      obtain ⟨o', ho', hdl⟩ := hdl
      rw [ho] at ho'; cases ho'
      simp only [ho, Bool.and_eq_true] at hb'
      obtain ⟨⟨⟨_, _⟩, hdep⟩, hopn⟩ := hb'
      rw [← opnds_wantZ hopn hdepS hagr] at hdl
      have key : ∀ v w', (∀ j ∈ qd, (if j = i then true else dn j) = false → AgainAt P ops (updo gk o.dst v) w' j) → DL P ops K r (updo gk o.dst v) w' → I (fun j => if j = i then true else dn j) (updo g o.dst v) w' := by
        intro v w' hag hdl
        have hc1 : CanonZ Z P n0 ops T K r (updo gk o.dst v) w' qd (i :: ed) (fun j => if j = i then true else dn j) := by
          refine ⟨hrest, hdl, ?_, ?_, hag⟩
          · intro j hj
            obtain ⟨hj0, hjq, oj, hoj, hqj, hopj, hdj⟩ := hc.nq j hj
            exact ⟨hj0, hjq, oj, hoj, hqj, hopj, fun k hk => (hdj k hk).imp (fun h => h) (List.mem_cons_of_mem _)⟩
          · intro j hj
            rcases List.mem_cons.1 hj with e | hj
            · rw [e]; exact ⟨hi, hq⟩
            · exact hc.ne j hj
        obtain ⟨p', gk', qd', hc', h1, h2, h3⟩ := CanonAdvZ hI r (updo gk o.dst v) qd hc1
        refine ⟨p', gk', qd', i :: ed, hc', h1, ?_, ?_, ?_, hdc'⟩
        · intro j hj
          by_cases e : j = i
          · rw [e]; exact ⟨hi, .inr (by simp)⟩
          · simp only [if_neg e] at hj
            exact ⟨(hd1 j hj).1, (hd1 j hj).2.imp (h2 j) (List.mem_cons_of_mem _)⟩
        · intro j hj
          by_cases e : j = i
          · simp only [if_pos e]
          · simp only [if_neg e]
            exact hd2 j ((List.mem_cons.1 hj).resolve_left e)
        · refine Agr.trans (S := fun j => (if j = i then true else dn j) = true ∨ isQZ Z n0 ops j = false) (S' := fun j => (j ∈ qd ∨ j ∈ i :: ed) ∨ isQZ Z n0 ops j = false) (g' := updo gk o.dst v) (agr_both hI hi ho hagr fun j hj hne => by simp only [if_neg hne] at hj; exact hj) h3 ?_
          · intro j hj
            by_cases e : j = i
            · rw [e]; exact .inl (.inr (by simp))
            · simp only [if_neg e] at hj
              exact hj.imp (fun h => (hd1 j h).2.imp (fun h => h) (List.mem_cons_of_mem _)) (fun h => h)
      split
      · rename_i hw
        rw [if_pos hw] at hdl
        refine (exec_congr (opnds_evZ hopn hdepS (fun _ _ _ hk _ _ => .inr hk) hagr).symm hdl).mono ?_
        rintro v w' ⟨hagv, hdlv⟩
        refine key v w' ?_ hdlv
        intro j hj hjd
        have hjd' : dn j = false := by
          split at hjd
          · cases hjd
          · exact hjd
        have := List.all_eq_true.1 hagq j hj
        simp only [Bool.or_eq_true, List.any_eq_true] at this
        rcases this with (h | h) | ⟨k, hk, h⟩
        · exact hagv j (by simpa using h)
        · have := hanc j (by simpa using h); rw [hjd'] at this; cases this
        · obtain ⟨hk0, _⟩ := hc.ne k hk
          obtain ⟨ok, hok⟩ := hI.1 k hk0
          have := anc_dn hT hdc hb k ok hok (hdc k ok (hd2 k hk) hok) j (by simpa using h)
          rw [hjd'] at this; cases this
      · rename_i hw
        rw [if_neg hw] at hdl
        refine key undef w ?_ hdl
        intro j hj hjd
        have hjd' : dn j = false := by
          split at hjd
          · cases hjd
          · exact hjd
        obtain ⟨hj0, hjq, oj, hoj, hqj, hopj, hdj⟩ := hc.nq j hj
        have hne : ∀ k, k ∈ qd ∨ k ∈ ed → k ≠ i := by
          rintro k (h | h) rfl
          · exact hniq h
          · exact hnoted h
        refine again_agrZ (S := fun k => ((k ∈ qd ∨ k ∈ ed) ∨ isQZ Z n0 ops k = false) ∧ k ≠ i) hj0 hoj hopj (fun k hk => ⟨.inl (hdj k hk), hne k (hdj k hk)⟩) ?_ ⟨.inl (.inl hj), hne j (.inl hj)⟩ (isQ_dstZ hjq hoj) (agr_upd hI hi ho (fun hm => hm.2 rfl)) (hc.ag j hj hjd')
        intro k ok _ hkq hok hjk
        refine ⟨.inr hkq, ?_⟩
        rintro rfl
        rw [ho] at hok; cases hok
        have := hdepdn j hjk
        rw [hjd'] at this; cases this
  · rintro dn g w hall ⟨p, gk, qd, ed, hc, hnq, hd1, hd2, hagr, hdc⟩
    have hg : g = gk := by
      funext n
      by_cases hn : ∀ k, k < n0 → dstIs ops k n = false
      · exact hagr.1 n hn
      · obtain ⟨k, hk, hd'⟩ : ∃ k, k < n0 ∧ dstIs ops k n = true := by
          refine Classical.byContradiction fun hc => hn fun k hk => ?_
          cases hd : dstIs ops k n with
          | false => rfl
          | true => exact absurd ⟨k, hk, hd⟩ hc
        exact hagr.2 k n hk (.inl (hall k hk)) hd'
    subst hg
    rcases node_specZ p hnq hc.ok hc.dl with e | ⟨_, hne, hsp⟩
    · subst e; exact hc.dl
    · obtain ⟨i', hi'⟩ := List.exists_mem_of_ne_nil _ hne
      obtain ⟨ag, r, hok, _⟩ := hsp i' hi'
      simp only [planOKZ, Bool.and_eq_true] at hok
      obtain ⟨⟨⟨⟨hi', hb'⟩, _⟩, _⟩, _⟩ := hok
      have hi'' : i' < n0 := by simpa [Nat.blt_eq] using hi'
      have hdn := hall i' hi''
      obtain ⟨o', ho'⟩ := hI.1 i' hi''
      simp only [ho', Bool.and_eq_true, Bool.not_eq_true'] at hb'
      rcases (hd1 i' hdn).2 with hm | hm
      · have := (hc.nq i' hm).2.1
        rw [hb'.1.1.1] at this; cases this
      · have := hb'.1.1.2
        simp [hm] at this
end
end Go.Pw
