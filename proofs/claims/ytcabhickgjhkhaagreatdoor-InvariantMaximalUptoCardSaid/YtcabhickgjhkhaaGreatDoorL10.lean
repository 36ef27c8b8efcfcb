/-
  My walk's base, part 11: a region that draws its order is walked in one order: quiet operations as soon as they may, the others one after the other.
-/
import Derived.Test.YtcabhickgjhkhaaGreatDoorL6
import Derived.Orders
set_option linter.unusedSimpArgs false
set_option linter.unusedVariables false
namespace Go.Pw
/-- The order in which a drawn region's head is walked. -/
inductive DPlan where
  | done
  | q (i : Nat) (r : DPlan)
  | e (i : Nat) (ag : List Nat) (r : DPlan)
  | alt (p q : DPlan)
def quietOp (o : Oper) : Bool := match o.op with
  | .move _ | .assign _ | .pick _ _ _ | .build _ _ | .load _ _ | .nilCheck _ | .binOp _ _ _ _ _ | .unOp _ _ _ | .convert _ _ _ | .makeInterface _ _ | .slice _ _ _ _ _ | .fieldAddr _ _ _ | .field _ _ _
  | .indexAddr _ _ _ | .index _ _ _ | .typeAssert _ _ _ _ | .extract _ _ | .lookup _ _ _ _ => true
  | .call c => match c.callee with | .builtin .len | .builtin .cap | .builtin .min | .builtin .max => true | _ => false
  | _ => false
def noSel (o : Oper) : Bool := match o.op with | .select _ _ => false | _ => true
def isVal : Next → Prop | .value _ => True | _ => False
theorem val_of {s : Sem Value} {P : Program} {w w' : World} {n : Next} (h : (do pure (.value (← s)) : Sem Next).run P w = .ok n w') : isVal n := by
  rw [Sem.run_bind] at h
  cases hs : s.run P w with
  | ok a w1 => rw [hs] at h; simp only [Result.andThen_ok, Sem.run_pure, Result.ok.injEq] at h; rw [← h.1]; trivial
  | halt x w1 => rw [hs] at h; simp [Result.andThen] at h
def LastVal (P : Program) (s : Sem Next) : Prop := ∀ w n w', s.run P w = .ok n w' → isVal n
theorem lastval_pure {P : Program} {v : Value} : LastVal P (pure (.value v)) := by
  intro w n w' h; simp only [Sem.run_pure, Result.ok.injEq] at h; rw [← h.1]; trivial
theorem lastval_of {α : Type} {P : Program} {s : Sem α} {k : α → Sem Next} (hk : ∀ a, LastVal P (k a)) : LastVal P (s >>= k) := by
  intro w n w' h
  rw [Sem.run_bind] at h
  cases hs : s.run P w with
  | ok a w1 => rw [hs] at h; exact hk a w1 n w' h
  | halt x w1 => rw [hs] at h; simp [Result.andThen] at h
theorem quiet_run {P : Program} {ρ : Operand → Value} {o : Oper} {w w' : World} {n : Next} (hq : quietOp o = true) (h : (execOp ρ o).run P w = .ok n w') : isVal n := by
  obtain ⟨dst, op, type, pos, after, guard⟩ := o
  cases op <;> simp only [quietOp] at hq <;> first | (cases hq; done) | skip
  case move x => simp only [execOp, Sem.run_pure, Result.ok.injEq] at h; rw [← h.1]; trivial
  case assign x => simp only [execOp, Sem.run_pure, Result.ok.injEq] at h; rw [← h.1]; trivial
  case pick c a b =>
    simp only [execOp, Sem.run_bind] at h
    cases hs : (asBool (ρ c)).run P w with
    | ok a w1 => rw [hs] at h; simp only [Result.andThen_ok, Sem.run_pure, Result.ok.injEq] at h; rw [← h.1]; trivial
    | halt x w1 => rw [hs] at h; simp [Result.andThen] at h
  case nilCheck x =>
    simp only [execOp] at h
    split at h
    · simp [runtimePanic, Sem.run] at h
      try (split at h <;> simp_all)
    · simp [runtimePanic, Sem.run] at h
      try (split at h <;> simp_all)
    · simp [runtimePanic, Sem.run] at h
      try (split at h <;> simp_all)
    · split at h
      · simp [runtimePanic, Sem.run] at h
        try (split at h <;> simp_all)
      · exact lastval_of (fun _ => lastval_of (fun _ => by split <;> first | exact lastval_of fun _ => lastval_pure | exact lastval_pure)) _ _ _ h
      · simp only [Sem.run_pure, Result.ok.injEq] at h; rw [← h.1]; trivial
    · simp only [Sem.run_pure, Result.ok.injEq] at h; rw [← h.1]; trivial
  case call c =>
    obtain ⟨callee, args, argTypes⟩ := c
    cases callee with
    | value f => cases hq
    | invoke r m => cases hq
    | builtin b =>
      cases b <;> first | (cases hq; done) | exact val_of (by simpa only [execOp, resolve, invoke, builtin, Sem.run_bind, Sem.run_pure, Result.andThen_ok] using h)
  all_goals exact val_of h
theorem quiet_exec {P : Program} {ρ : Operand → Value} {o : Oper} {w : World} {K : Value → World → Prop} (hq : quietOp o = true) (h : Exec P ρ o w K) : ∃ v w', (execOp ρ o).run P w = .ok (.value v) w' ∧ K v w' := by
  unfold Exec at h
  cases hr : (execOp ρ o).run P w with
  | halt x w1 => rw [hr] at h; exact h.elim
  | ok n w1 =>
    have hv := quiet_run hq hr
    cases n <;> first | exact hv.elim | skip
    rw [hr] at h
    exact ⟨_, _, rfl, h⟩
theorem exec_congr {P : Program} {ρ ρ' : Operand → Value} {o : Oper} {w : World} {K : Value → World → Prop} (he : execOp ρ o = execOp ρ' o) (h : Exec P ρ o w K) : Exec P ρ' o w K := by
  unfold Exec at *; rw [← he]; exact h
def deps (o : Oper) : List Nat := (o.after.toList.filter (Region.binds .any)).map (·.on)
theorem mem_deps {o : Oper} {j : Nat} : j ∈ deps o ↔ ∃ e ∈ o.after, Region.binds .any e = true ∧ e.on = j := by
  simp only [deps, List.mem_map, List.mem_filter, Array.mem_toList_iff]
  constructor
  · rintro ⟨e, ⟨h1, h2⟩, h3⟩; exact ⟨e, h1, h2, h3⟩
  · rintro ⟨e, h1, h2, h3⟩; exact ⟨e, ⟨h1, h2⟩, h3⟩
/-- An operation is run once more: it leaves what it has left. -/
def AgainAt (P : Program) (ops : List Oper) (f : Fr) (w : World) (j : Nat) : Prop :=
  ∀ o, ops[j]? = some o → if Region.wanted o (yieldedF ops.toArray f) then Exec P (ev f) o w (fun v w' => w' = w ∧ v = f (dstAt ops j)) else f (dstAt ops j) = undef
/-- The walk of a drawn region's head in the plan's order. -/
def DL (P : Program) (ops : List Oper) (K : Fr → World → Prop) : DPlan → Fr → World → Prop
  | .done, f, w => K f w
  | .q i r, f, w => ∃ o, ops[i]? = some o ∧ (if Region.wanted o (yieldedF ops.toArray f) then Exec P (ev f) o w (fun v w' => w' = w ∧ DL P ops K r (updo f o.dst v) w) else DL P ops K r (updo f o.dst undef) w)
  | .e i ag r, f, w => ∃ o, ops[i]? = some o ∧ (if Region.wanted o (yieldedF ops.toArray f) then Exec P (ev f) o w (fun v w' => (∀ j ∈ ag, AgainAt P ops (updo f o.dst v) w' j) ∧ DL P ops K r (updo f o.dst v) w') else DL P ops K r (updo f o.dst undef) w)
  | .alt p q, f, w => DL P ops K p f w ∧ DL P ops K q f w
def ancTab (ops : List Oper) : List (List Nat) := ops.foldl (fun T o => T ++ [((deps o) ++ (deps o).flatMap fun j => T.getD j []).eraseDups]) []
def ancOf (T : List (List Nat)) (i : Nat) : List Nat := T.getD i []
def closedT (ops : List Oper) (T : List (List Nat)) : Bool := (List.range T.length).all fun i => match ops[i]? with
  | none => false
  | some o => (ancOf T i).all fun j => (deps o).contains j || (deps o).any fun k => (ancOf T k).contains j
def dstIs (ops : List Oper) (k u : Nat) : Bool := match (ops[k]?).bind (·.dst) with | some d => Nat.beq d u | none => false
def reads (o : Oper) (u : Nat) : Bool := o.op.operands.toList.any fun x => match x with | .tmp t => Nat.beq t u | _ => false
/-- A quiet operation whose result nobody reads who has not waited for it. -/
def isQ (n0 : Nat) (ops : List Oper) (i : Nat) : Bool := match ops[i]? with
  | none => false
  | some o => quietOp o && (match o.dst with
    | none => false
    | some d => (List.range n0).all fun k => match ops[k]? with | some o' => !(reads o' d) || (deps o').contains i | none => true)
def tmpOK (n0 : Nat) (ops : List Oper) (i : Nat) (o : Oper) (u : Nat) : Bool := ((List.range n0).all fun k => !dstIs ops k u || (!isQ n0 ops k && (match ops[k]? with | some ok => (deps ok).contains i | none => false))) || (deps o).any fun k => Nat.blt k n0 && dstIs ops k u
def opndsOK (n0 : Nat) (ops : List Oper) (i : Nat) (o : Oper) : Bool :=
  (o.op.operands.toList.all fun x => match x with | .tmp u => tmpOK n0 ops i o u | _ => true) && (match o.guard with | some (j, _) => (deps o).contains j && Nat.blt j n0 | none => true) && noSel o
def stageOK (n0 : Nat) (ops : List Oper) (T : List (List Nat)) (nx : List Nat) (qd ed : List Nat) : Bool :=
  (List.range n0).all fun i => qd.contains i || ed.contains i || nx.contains i || (ancOf T i).any fun j => !isQ n0 ops j && !qd.contains j && !ed.contains j
def firsts : DPlan → List Nat
  | .e i _ _ => [i]
  | .alt p q => firsts p ++ firsts q
  | _ => []
def planOK (n0 : Nat) (ops : List Oper) (T : List (List Nat)) : DPlan → Option (List Nat) → List Nat → List Nat → Bool
  | .done, nx, qd, ed => nx.isNone && (List.range n0).all fun i => qd.contains i || ed.contains i
  | .q i r, nx, qd, ed => nx.isNone && Nat.blt i n0 && (match ops[i]? with
    | some o => isQ n0 ops i && quietOp o && !qd.contains i && ((deps o).all fun j => qd.contains j || ed.contains j) && opndsOK n0 ops i o
    | none => false) && planOK n0 ops T r none (i :: qd) ed
  | .e i ag r, nx, qd, ed => Nat.blt i n0 && (match ops[i]? with
    | some o => !isQ n0 ops i && !ed.contains i && ((deps o).all fun j => qd.contains j || ed.contains j) && opndsOK n0 ops i o
    | none => false) && stageOK n0 ops T (nx.getD [i]) qd ed && (qd.all fun j => ag.contains j || (ancOf T i).contains j || ed.any fun k => (ancOf T k).contains j) && planOK n0 ops T r none qd (i :: ed)
  | .alt p q, nx, qd, ed => planOK n0 ops T p (some (nx.getD (firsts p ++ firsts q))) qd ed && planOK n0 ops T q (some (nx.getD (firsts p ++ firsts q))) qd ed
def dlOK (n0 : Nat) (ops : List Oper) (p : DPlan) : Bool := let T := ancTab ops; closedT ops T && Nat.beq T.length ops.length && planOK n0 ops T p none [] []
/-- Two frames agree on what has been done. -/
def Agr (n0 : Nat) (ops : List Oper) (S : Nat → Prop) (g g' : Fr) : Prop := (∀ n, (∀ k, k < n0 → dstIs ops k n = false) → g n = g' n) ∧ ∀ i d, i < n0 → S i → dstIs ops i d = true → g d = g' d
theorem tmp_agr {n0 : Nat} {ops : List Oper} {i : Nat} {o : Oper} {u : Nat} {S : Nat → Prop} {g g' : Fr} (h : tmpOK n0 ops i o u = true) (hS : ∀ j ∈ deps o, S j) (hA : ∀ k ok, k < n0 → isQ n0 ops k = false → ops[k]? = some ok → i ∈ deps ok → S k) (ha : Agr n0 ops S g g') : g u = g' u := by
  simp only [tmpOK, Bool.or_eq_true, List.all_eq_true, List.mem_range, Bool.not_eq_true', List.any_eq_true, Bool.and_eq_true] at h
  rcases h with h | ⟨k, hk, hk0, hd⟩
  · by_cases hn : ∀ k, k < n0 → dstIs ops k u = false
    · exact ha.1 u hn
    · obtain ⟨k, hk, hd⟩ : ∃ k, k < n0 ∧ dstIs ops k u = true := by
        refine Classical.byContradiction fun hc => hn fun k hk => ?_
        cases hd : dstIs ops k u with
        | false => rfl
        | true => exact absurd ⟨k, hk, hd⟩ hc
      rcases h k hk with h | ⟨h1, h2⟩
      · rw [hd] at h; cases h
      · cases hok : ops[k]? with
        | none => rw [hok] at h2; cases h2
        | some ok =>
          rw [hok] at h2
          exact ha.2 k u hk (hA k ok hk h1 hok (by simpa using h2)) hd
  · exact ha.2 k u (by simpa [Nat.blt_eq] using hk0) (hS k hk) hd
theorem opnds_ev {n0 : Nat} {ops : List Oper} {i : Nat} {o : Oper} {S : Nat → Prop} {g g' : Fr} (h : opndsOK n0 ops i o = true) (hS : ∀ j ∈ deps o, S j) (hA : ∀ k ok, k < n0 → isQ n0 ops k = false → ops[k]? = some ok → i ∈ deps ok → S k) (ha : Agr n0 ops S g g') : execOp (ev g) o = execOp (ev g') o := by
  simp only [opndsOK, Bool.and_eq_true, List.all_eq_true] at h
  refine execOp_congr o ?_ ?_
  · intro cs b he; have := h.2; simp [noSel, he] at this
  · intro x hx
    have := h.1.1 x (by simpa using hx)
    cases x with
    | tmp u => exact tmp_agr this hS hA ha
    | _ => rfl
theorem opnds_want {n0 : Nat} {ops : List Oper} {i : Nat} {o : Oper} {S : Nat → Prop} {g g' : Fr} (h : opndsOK n0 ops i o = true) (hS : ∀ j ∈ deps o, S j) (ha : Agr n0 ops S g g')  :
    Region.wanted o (yieldedF ops.toArray g) = Region.wanted o (yieldedF ops.toArray g') := by
  simp only [opndsOK, Bool.and_eq_true] at h
  unfold Region.wanted
  cases hg : o.guard with
  | none => rfl
  | some gw =>
    obtain ⟨j, want⟩ := gw
    have h2 := h.1.2
    simp only [hg, Bool.and_eq_true] at h2
    have hj : j ∈ deps o := by simpa using h2.1
    have hj0 : j < n0 := by simpa [Nat.blt_eq] using h2.2
    have : yieldedF ops.toArray g j = yieldedF ops.toArray g' j := by
      unfold yieldedF
      cases hd : (ops.toArray[j]?).bind (·.dst) with
      | none => rfl
      | some d =>
        have e1 : dstIs ops j d = true := by
          unfold dstIs
          have : (ops[j]?).bind (·.dst) = some d := by simpa using hd
          rw [this]; simp
        have he := ha.2 j d hj0 (hS j hj) e1
        simp only [he]
    simp only [this]
def notQ : DPlan → Prop | .q _ _ => False | _ => True
structure Canon (P : Program) (n0 : Nat) (ops : List Oper) (T : List (List Nat)) (K : Fr → World → Prop) (p : DPlan) (gk : Fr) (w : World) (qd ed : List Nat) (dn : Nat → Bool) : Prop where
  ok : planOK n0 ops T p none qd ed = true
  dl : DL P ops K p gk w
  nq : ∀ i ∈ qd, i < n0 ∧ isQ n0 ops i = true ∧ ∃ o, ops[i]? = some o ∧ quietOp o = true ∧ opndsOK n0 ops i o = true ∧ ∀ j ∈ deps o, j ∈ qd ∨ j ∈ ed
  ne : ∀ i ∈ ed, i < n0 ∧ isQ n0 ops i = false
  ag : ∀ i ∈ qd, dn i = false → AgainAt P ops gk w i
def DInj (n0 : Nat) (ops : List Oper) : Prop := (∀ i, i < n0 → ∃ o, ops[i]? = some o) ∧ ∀ (i j : Nat) (oi oj : Oper) (d : Nat), i < n0 → j < n0 → ops[i]? = some oi → ops[j]? = some oj → oi.dst = some d → oj.dst = some d → i = j
theorem dstAt_of {ops : List Oper} {i d : Nat} {o : Oper} (ho : ops[i]? = some o) (hd : o.dst = some d) : dstAt ops i = d := by simp [dstAt, ho, hd]
theorem dstIs_of {ops : List Oper} {i d : Nat} {o : Oper} (ho : ops[i]? = some o) (hd : o.dst = some d) : dstIs ops i d = true := by simp [dstIs, ho, hd]
theorem dstIs_dst {ops : List Oper} {i d : Nat} (h : dstIs ops i d = true) : ∃ o, ops[i]? = some o ∧ o.dst = some d := by
  unfold dstIs at h
  cases ho : ops[i]? with
  | none => simp [ho] at h
  | some o =>
    cases hd : o.dst with
    | none => simp [ho, hd] at h
    | some d' => simp [ho, hd] at h; exact ⟨o, rfl, by rw [hd, h]⟩
theorem isQ_dst {n0 : Nat} {ops : List Oper} {i : Nat} {o : Oper} (h : isQ n0 ops i = true) (ho : ops[i]? = some o) : ∃ d, o.dst = some d := by
  simp only [isQ, ho, Bool.and_eq_true] at h
  cases hd : o.dst with
  | none => simp [hd] at h
  | some d => exact ⟨d, rfl⟩
theorem agr_upd {n0 : Nat} {ops : List Oper} {S : Nat → Prop} {g : Fr} {i : Nat} {o : Oper} {v : Value} (hI : DInj n0 ops) (hi : i < n0) (ho : ops[i]? = some o) (hS : ¬ S i) : Agr n0 ops S g (updo g o.dst v) := by
  cases hd : o.dst with
  | none => exact ⟨fun _ _ => rfl, fun _ _ _ _ _ => rfl⟩
  | some d =>
    refine ⟨fun n hn => ?_, fun j dj hj hSj hdj' => ?_⟩
    · have : n ≠ d := by rintro rfl; have := hn i hi; rw [dstIs_of ho hd] at this; cases this
      simp only [updo, upd_ne _ _ this]
    · obtain ⟨oj, hoj, hdj⟩ := dstIs_dst hdj'
      have : dj ≠ d := by rintro rfl; exact hS ((hI.2 i j o oj dj hi hj ho hoj hd hdj) ▸ hSj)
      simp only [updo, upd_ne _ _ this]
/-- Two frames that agree get the same value at one place. -/
theorem agr_both {n0 : Nat} {ops : List Oper} {S S' : Nat → Prop} {g g' : Fr} {i : Nat} {o : Oper} {v : Value} (hI : DInj n0 ops) (hi : i < n0) (ho : ops[i]? = some o) (h : Agr n0 ops S g g') (hS : ∀ j, S' j → j ≠ i → S j) : Agr n0 ops S' (updo g o.dst v) (updo g' o.dst v) := by
  cases hd : o.dst with
  | none =>
    refine ⟨h.1, fun j dj hj hSj hdj => ?_⟩
    by_cases e : j = i
    · subst e
      obtain ⟨oj, hoj, hdj'⟩ := dstIs_dst hdj
      rw [ho] at hoj; cases hoj; rw [hd] at hdj'; cases hdj'
    · exact h.2 j dj hj (hS j hSj e) hdj
  | some d =>
    refine ⟨fun n hn => ?_, fun j dj hj hSj hdj => ?_⟩
    · have : n ≠ d := by rintro rfl; have := hn i hi; rw [dstIs_of ho hd] at this; cases this
      simp only [updo, upd_ne _ _ this]
      exact h.1 n hn
    · by_cases e : dj = d
      · subst e; simp only [updo, upd_same]
      · simp only [updo, upd_ne _ _ e]
        refine h.2 j dj hj (hS j hSj ?_) hdj
        rintro rfl
        obtain ⟨oj, hoj, hdj'⟩ := dstIs_dst hdj
        rw [ho] at hoj; cases hoj; rw [hd] at hdj'; cases hdj'; exact e rfl
theorem again_agr {P : Program} {n0 : Nat} {ops : List Oper} {S : Nat → Prop} {g g' : Fr} {w : World} {j : Nat} {o : Oper} (hj : j < n0) (ho : ops[j]? = some o) (hk : opndsOK n0 ops j o = true) (hS : ∀ k ∈ deps o, S k) (hA : ∀ k ok, k < n0 → isQ n0 ops k = false → ops[k]? = some ok → j ∈ deps ok → S k) (hSj : S j) (hd : ∃ d, o.dst = some d) (ha : Agr n0 ops S g g') (h : AgainAt P ops g w j) : AgainAt P ops g' w j := by
  intro o' ho'
  rw [ho] at ho'
  cases ho'
  have h1 := h o ho
  obtain ⟨d, hd⟩ := hd
  have hval : g (dstAt ops j) = g' (dstAt ops j) := by rw [dstAt_of ho hd]; exact ha.2 j d hj hSj (dstIs_of ho hd)
  rw [opnds_want hk hS ha, hval] at h1
  split
  · rename_i hw
    rw [if_pos hw] at h1
    exact exec_congr (opnds_ev hk hS hA ha) h1
  · rename_i hw
    rw [if_neg hw] at h1
    exact h1
theorem Agr.trans {n0 : Nat} {ops : List Oper} {S S' : Nat → Prop} {g g' g'' : Fr} (h : Agr n0 ops S g g') (k : Agr n0 ops S' g' g'') (hs : ∀ i, S i → S' i) : Agr n0 ops S g g'' :=
  ⟨fun n hn => (h.1 n hn).trans (k.1 n hn), fun i d hi hS hd => (h.2 i d hi hS hd).trans (k.2 i d hi (hs i hS) hd)⟩
theorem Canon.advance {P : Program} {n0 : Nat} {ops : List Oper} {T : List (List Nat)} {K : Fr → World → Prop} (hI : DInj n0 ops) {w : World} {ed : List Nat} {dn : Nat → Bool} : ∀ (p : DPlan) (gk : Fr) (qd : List Nat), Canon P n0 ops T K p gk w qd ed dn →
    ∃ p' gk' qd', Canon P n0 ops T K p' gk' w qd' ed dn ∧ notQ p' ∧ (∀ i ∈ qd, i ∈ qd') ∧ Agr n0 ops (fun i => (i ∈ qd ∨ i ∈ ed) ∨ isQ n0 ops i = false) gk gk'
  | .done, gk, qd, h => ⟨.done, gk, qd, h, trivial, fun _ h => h, fun _ _ => rfl, fun _ _ _ _ _ => rfl⟩
  | .alt p q, gk, qd, h => ⟨.alt p q, gk, qd, h, trivial, fun _ h => h, fun _ _ => rfl, fun _ _ _ _ _ => rfl⟩
  | .e i ag r, gk, qd, h => ⟨.e i ag r, gk, qd, h, trivial, fun _ h => h, fun _ _ => rfl, fun _ _ _ _ _ => rfl⟩
  | .q i r, gk, qd, h => by
    obtain ⟨o, ho, hdl⟩ := h.dl
    have hok := h.ok
    simp only [planOK, Bool.and_eq_true, ho] at hok
    obtain ⟨⟨⟨_, hi⟩, ⟨⟨⟨hiq, hq⟩, hnq⟩, hdep⟩, hopn⟩, hrest⟩ := hok
    have hi' : i < n0 := by simpa [Nat.blt_eq] using hi
    have hnq' : i ∉ qd := by simpa using hnq
    have hne : i ∉ ed := fun hm => by have := (h.ne i hm).2; rw [hiq] at this; cases this
    have hnS : ¬ ((i ∈ qd ∨ i ∈ ed) ∨ isQ n0 ops i = false) := by
      rintro ((h | h) | h)
      · exact hnq' h
      · exact hne h
      · rw [hiq] at h; cases h
    have hdeps : ∀ j ∈ deps o, j ∈ qd ∨ j ∈ ed := by
      intro j hj
      have := List.all_eq_true.1 hdep j hj
      simpa using this
    obtain ⟨d, hd⟩ := isQ_dst hiq ho
    have key : ∀ v, (∀ g', g' = updo gk o.dst v → AgainAt P ops g' w i) → DL P ops K r (updo gk o.dst v) w → ∃ p' gk' qd', Canon P n0 ops T K p' gk' w qd' ed dn ∧ notQ p' ∧ (∀ i ∈ qd, i ∈ qd') ∧ Agr n0 ops (fun i => (i ∈ qd ∨ i ∈ ed) ∨ isQ n0 ops i = false) gk gk' := by
      intro v hag hdl
      have hA : Agr n0 ops (fun i => (i ∈ qd ∨ i ∈ ed) ∨ isQ n0 ops i = false) gk (updo gk o.dst v) := agr_upd hI hi' ho hnS
      have hc1 : Canon P n0 ops T K r (updo gk o.dst v) w (i :: qd) ed dn := by
        refine ⟨hrest, hdl, ?_, h.ne, ?_⟩
        · intro j hj
          rcases List.mem_cons.1 hj with e | hj
          · rw [e]; exact ⟨hi', hiq, o, ho, hq, hopn, fun k hk => (hdeps k hk).imp (List.mem_cons_of_mem _) (fun h => h)⟩
          · obtain ⟨hj0, hjq, oj, hoj, hqj, hopj, hdj⟩ := h.nq j hj
            exact ⟨hj0, hjq, oj, hoj, hqj, hopj, fun k hk => (hdj k hk).imp (List.mem_cons_of_mem _) (fun h => h)⟩
        · intro j hj hdn
          rcases List.mem_cons.1 hj with e | hj
          · rw [e]; exact hag _ rfl
          · obtain ⟨hj0, hjq, oj, hoj, hqj, hopj, hdj⟩ := h.nq j hj
            exact again_agr (S := fun i => (i ∈ qd ∨ i ∈ ed) ∨ isQ n0 ops i = false) hj0 hoj hopj (fun k hk => .inl (hdj k hk)) (fun _ _ _ hk _ _ => .inr hk) (.inl (.inl hj)) (isQ_dst hjq hoj) hA (h.ag j hj hdn)
      obtain ⟨p', gk', qd', hc, h1, h2, h3⟩ := Canon.advance hI r (updo gk o.dst v) (i :: qd) hc1
      exact ⟨p', gk', qd', hc, h1, fun j hj => h2 j (List.mem_cons_of_mem _ hj), hA.trans h3 (fun j hj => hj.imp (fun h => h.imp (List.mem_cons_of_mem _) (fun h => h)) (fun h => h))⟩
    have hA : ∀ v, Agr n0 ops (fun i => (i ∈ qd ∨ i ∈ ed) ∨ isQ n0 ops i = false) gk (updo gk o.dst v) := fun v => agr_upd hI hi' ho hnS
    have hval : ∀ v, updo gk o.dst v (dstAt ops i) = v := fun v => by rw [dstAt_of ho hd, hd]; simp only [updo, upd_same]
    have hd2 : ∀ j ∈ deps o, (j ∈ qd ∨ j ∈ ed) ∨ isQ n0 ops j = false := fun j hj => .inl (hdeps j hj)
    split at hdl
    · rename_i hw
      obtain ⟨v, w', hrun, rfl, hr⟩ := quiet_exec hq hdl
      refine key v ?_ hr
      rintro g' rfl o' ho'
      rw [ho] at ho'; cases ho'
      rw [← opnds_want hopn hd2 (hA v), if_pos hw]
      refine .of_run (v := v) ?_ ⟨rfl, (hval v).symm⟩
      rw [← opnds_ev hopn hd2 (fun _ _ _ hk _ _ => .inr hk) (hA v)]
      exact hrun
    · rename_i hw
      refine key undef ?_ hdl
      rintro g' rfl o' ho'
      rw [ho] at ho'; cases ho'
      rw [← opnds_want hopn hd2 (hA undef), if_neg hw]
      exact hval undef
theorem anc_dn {ops : List Oper} {T : List (List Nat)} (hT : closedT ops T = true) {dn : Nat → Bool} (hdc : ∀ i o, dn i = true → ops[i]? = some o → ∀ j ∈ deps o, dn j = true) (hb : ∀ (i : Nat) (o : Oper), ops[i]? = some o → ∀ j ∈ deps o, j < i) :
    ∀ (i : Nat) (o : Oper), ops[i]? = some o → (∀ j ∈ deps o, dn j = true) → ∀ j ∈ ancOf T i, dn j = true := by
  intro i
  induction i using Nat.strongRecOn with
  | _ i ih =>
    intro o ho hd j hj
    have hlt : i < T.length := by
      rcases Nat.lt_or_ge i T.length with h | h
      · exact h
      · unfold ancOf at hj; rw [List.getD_eq_getElem?_getD, List.getElem?_eq_none h] at hj; simp at hj
    have := List.all_eq_true.1 hT i (by simpa using hlt)
    simp only [ho, List.all_eq_true, Bool.or_eq_true, List.any_eq_true] at this
    rcases this j hj with h | ⟨k, hk, h⟩
    · exact hd j (by simpa using h)
    · have hdk := hd k hk
      have hki := hb i o ho k hk
      have hk' : ∃ ok, ops[k]? = some ok := by
        have hil := (List.getElem?_eq_some_iff.1 ho).1
        exact ⟨ops[k]'(by omega), by simp [show k < ops.length by omega]⟩
      obtain ⟨ok, hok⟩ := hk'
      exact ih k hki ok hok (hdc k ok hdk hok) j (by simpa using h)
section
variable {P : Program} {n0 : Nat} {ops : List Oper} {T : List (List Nat)} {K : Fr → World → Prop} {gk : Fr} {w : World} {qd ed : List Nat}
theorem alt_spec : ∀ (p : DPlan) (l : List Nat), planOK n0 ops T p (some l) qd ed = true → DL P ops K p gk w →
    stageOK n0 ops T l qd ed = true ∧ firsts p ≠ [] ∧ ∀ i ∈ firsts p, ∃ ag r, planOK n0 ops T (.e i ag r) (some l) qd ed = true ∧ DL P ops K (.e i ag r) gk w
  | .done, l, h, _ => by simp [planOK] at h
  | .q i r, l, h, _ => by simp [planOK] at h
  | .e i ag r, l, h, hd => by
    refine ⟨?_, by simp [firsts], ?_⟩
    · simp only [planOK, Bool.and_eq_true, Option.getD_some] at h
      exact h.1.1.2
    · intro j hj
      simp only [firsts, List.mem_singleton] at hj
      subst hj
      exact ⟨ag, r, h, hd⟩
  | .alt p q, l, h, hd => by
    simp only [planOK, Bool.and_eq_true, Option.getD_some] at h
    obtain ⟨a1, a2, a3⟩ := alt_spec p l h.1 hd.1
    obtain ⟨b1, b2, b3⟩ := alt_spec q l h.2 hd.2
    refine ⟨a1, by simp [firsts, a2], ?_⟩
    intro j hj
    simp only [firsts, List.mem_append] at hj
    rcases hj with hj | hj
    · exact a3 j hj
    · exact b3 j hj
theorem node_spec (p : DPlan) (hn : notQ p) (h : planOK n0 ops T p none qd ed = true) (hd : DL P ops K p gk w) :
    p = .done ∨ (stageOK n0 ops T (firsts p) qd ed = true ∧ firsts p ≠ [] ∧ ∀ i ∈ firsts p, ∃ ag r, planOK n0 ops T (.e i ag r) (some (firsts p)) qd ed = true ∧ DL P ops K (.e i ag r) gk w) := by
  cases p with
  | done => exact .inl rfl
  | q => exact hn.elim
  | e i ag r =>
    refine .inr ?_
    exact alt_spec (.e i ag r) [i] (by simpa only [planOK, Option.getD_some, Option.getD_none] using h) hd
  | alt p q =>
    refine .inr ?_
    exact alt_spec (.alt p q) (firsts p ++ firsts q) (by simpa only [planOK, Option.getD_some, Option.getD_none] using h) hd
end
theorem fm_inj {α : Type} {f : α → Option Nat} : ∀ {l : List α} {i j : Nat} {a b : α} {d : Nat}, (l.filterMap f).Nodup → l[i]? = some a → l[j]? = some b → f a = some d → f b = some d → i = j
  | [], _, _, _, _, _, _, h, _, _, _ => by simp at h
  | x :: l, 0, 0, _, _, _, _, _, _, _, _ => rfl
  | x :: l, 0, j + 1, a, b, d, hn, ha, hb, hfa, hfb => by
    simp only [List.getElem?_cons_zero, Option.some.injEq] at ha
    subst ha
    rw [List.filterMap_cons_some hfa] at hn
    exact absurd (List.mem_filterMap.2 ⟨b, List.mem_of_getElem? (by simpa using hb), hfb⟩) (List.nodup_cons.1 hn).1
  | x :: l, i + 1, 0, a, b, d, hn, ha, hb, hfa, hfb => by
    simp only [List.getElem?_cons_zero, Option.some.injEq] at hb
    subst hb
    rw [List.filterMap_cons_some hfb] at hn
    exact absurd (List.mem_filterMap.2 ⟨a, List.mem_of_getElem? (by simpa using ha), hfa⟩) (List.nodup_cons.1 hn).1
  | x :: l, i + 1, j + 1, a, b, d, hn, ha, hb, hfa, hfb => by
    have hn' : (l.filterMap f).Nodup := by
      cases hx : f x with
      | none => rwa [List.filterMap_cons_none hx] at hn
      | some y => rw [List.filterMap_cons_some hx] at hn; exact (List.nodup_cons.1 hn).2
    have he : i = j := fm_inj hn' (by simpa using ha) (by simpa using hb) hfa hfb
    rw [he]
section
variable {P : Program} {N : Nat} {Q : Post} {f : Fr} {w : World}
theorem W_dl {id n0 : Nat} {ops : List Oper} (p : DPlan) (hm : P.follows .mixedOrders = true) (hok : drawOK2 N n0 ops = true) (hp : dlOK n0 ops p = true)
    (h : DL P ops (fun g w' => WL P N ops.toArray Q (ops.drop n0) g w') p f w.drew) : W P N (.region id ops.toArray true) Q f w := by
  have hok0 := hok
  simp only [drawOK2, Bool.and_eq_true, decide_eq_true_eq, List.all_eq_true, Bool.or_eq_true] at hok
  obtain ⟨⟨⟨⟨⟨hn0, hwait⟩, hdst⟩, _⟩, hnodup⟩, hback⟩ := hok
  have hn0' : n0 ≤ ops.length := by simpa [Nat.ble_eq] using hn0
  have hI : DInj n0 ops := by
    refine ⟨fun i hi => ⟨ops[i]'(by omega), by simp [show i < ops.length by omega]⟩, fun i j oi oj d hi hj hoi hoj hdi hdj => ?_⟩
    exact fm_inj (f := fun o : Oper => o.dst) hnodup (by rw [List.getElem?_take, if_pos hi]; exact hoi) (by rw [List.getElem?_take, if_pos hj]; exact hoj) hdi hdj
  have hb : ∀ (i : Nat) (o : Oper), ops[i]? = some o → ∀ j ∈ deps o, j < i := by
    intro i o ho j hj
    obtain ⟨e, he, hbi, rfl⟩ := mem_deps.1 hj
    have hi : i < ops.length := (List.getElem?_eq_some_iff.1 ho).1
    have := hback i (by simpa using hi)
    simp only [ho] at this
    have := Array.all_eq_true'.1 this e he
    simpa [Nat.blt_eq, hbi] using this
  simp only [dlOK, Bool.and_eq_true] at hp
  obtain ⟨⟨hT, _⟩, hpl⟩ := hp
  generalize ancTab ops = T at hT hpl
  let K : Fr → World → Prop := fun g w' => WL P N ops.toArray Q (ops.drop n0) g w'
  let I : (Nat → Bool) → Fr → World → Prop := fun dn g w => ∃ p gk qd ed, Canon P n0 ops T K p gk w qd ed dn ∧ notQ p ∧ (∀ i, dn i = true → i < n0 ∧ (i ∈ qd ∨ i ∈ ed)) ∧ (∀ i ∈ ed, dn i = true) ∧ Agr n0 ops (fun i => dn i = true ∨ isQ n0 ops i = false) g gk ∧
    (∀ i o, dn i = true → ops[i]? = some o → ∀ j ∈ deps o, dn j = true)
  refine W_drawI hm hok0 I ?_ ?_ ?_
  · obtain ⟨p', gk', qd', hc, h1, _, h3⟩ := Canon.advance (P := P) (K := K) (T := T) hI (w := w.drew) (ed := []) (dn := fun _ => false) p f [] ⟨hpl, h, by simp, by simp, by simp⟩
    exact ⟨p', gk', qd', [], hc, h1, by simp, by simp, ⟨h3.1, fun i d hi hS hd => h3.2 i d hi (hS.elim (fun h => by cases h) .inr) hd⟩, by simp⟩
  · rintro i o dn g w hi ho hdn hdeps _ ⟨p, gk, qd, ed, hc, hnq, hd1, hd2, hagr, hdc⟩
    have hdepdn : ∀ j ∈ deps o, dn j = true := by
      intro j hj
      obtain ⟨e, he, hbi, rfl⟩ := mem_deps.1 hj
      exact hdeps e he hbi
    have hdepS : ∀ j ∈ deps o, dn j = true ∨ isQ n0 ops j = false := fun j hj => .inl (hdepdn j hj)
    have hanc := anc_dn hT hdc hb i o ho hdepdn
    have hnoted : i ∉ ed := fun hm => by have := hd2 i hm; rw [hdn] at this; cases this
    -- an effect that is done is in ed
    have heff : ∀ j, isQ n0 ops j = false → dn j = true → j ∈ ed := by
      intro j hj hjd
      rcases (hd1 j hjd).2 with hm | hm
      · have h5 := (hc.nq j hm).2.1
        rw [hj] at h5; cases h5
      · exact hm
    have hdc' : ∀ k ok, (if k = i then true else dn k) = true → ops[k]? = some ok → ∀ j ∈ deps ok, (if j = i then true else dn j) = true := by
      intro k ok hk hok j hj
      by_cases e : k = i
      · subst e
        rw [ho] at hok; cases hok
        have := hdepdn j hj
        split <;> first | rfl | exact this
      · rw [if_neg e] at hk
        have := hdc k ok hk hok j hj
        split <;> first | rfl | exact this
    have hnode := node_spec p hnq hc.ok hc.dl
    have hstage : ∀ l, stageOK n0 ops T l qd ed = true → i ∈ qd ∨ i ∈ l := by
      intro l hst
      simp only [stageOK, List.all_eq_true, List.mem_range, Bool.or_eq_true, List.any_eq_true, Bool.and_eq_true] at hst
      rcases hst i hi with ((h | h) | h) | ⟨j, hj, ⟨he, _⟩, hn⟩
      · exact .inl (by simpa using h)
      · exact (hnoted (by simpa using h)).elim
      · exact .inr (by simpa using h)
      · have := heff j (by simpa using he) (hanc j hj)
        simp [this] at hn
    have hdoneq : planOK n0 ops T .done none qd ed = true → i ∈ qd := by
      intro hok
      simp only [planOK, Bool.and_eq_true, List.all_eq_true, List.mem_range, Bool.or_eq_true] at hok
      rcases hok.2 i hi with h | h
      · simpa using h
      · exact (hnoted (by simpa using h)).elim
    cases hq : isQ n0 ops i with
    | true =>
      have hiq : i ∈ qd := by
        rcases hnode with e | ⟨hst, _, hsp⟩
        · subst e; exact hdoneq hc.ok
        · rcases hstage _ hst with h | h
          · exact h
          · obtain ⟨ag, r, hok, _⟩ := hsp i h
            simp [planOK, ho, hq] at hok
      obtain ⟨_, _, o', ho', _, hopn, _⟩ := hc.nq i hiq
      rw [ho] at ho'; cases ho'
      have hag := hc.ag i hiq hdn o ho
      obtain ⟨d, hd⟩ := isQ_dst hq ho
      rw [← opnds_want hopn hdepS hagr] at hag
      have key : ∀ v, v = gk (dstAt ops i) → I (fun j => if j = i then true else dn j) (updo g o.dst v) w := by
        rintro v rfl
        refine ⟨p, gk, qd, ed, ⟨hc.ok, hc.dl, hc.nq, hc.ne, fun j hj hdj => hc.ag j hj ?_⟩, hnq, ?_, ?_, ⟨?_, ?_⟩, hdc'⟩
        · by_cases e : j = i
          · simp only [if_pos e] at hdj; cases hdj
          · simp only [if_neg e] at hdj; exact hdj
        · intro j hj
          by_cases e : j = i
          · rw [e]; exact ⟨hi, .inl hiq⟩
          · simp only [if_neg e] at hj; exact hd1 j hj
        · intro j hj
          by_cases e : j = i
          · simp only [if_pos e]
          · simp only [if_neg e]; exact hd2 j hj
        · intro n hn
          have hne : n ≠ d := by rintro rfl; have := hn i hi; rw [dstIs_of ho hd] at this; cases this
          rw [hd]; simp only [updo, upd_ne _ _ hne]
          exact hagr.1 n hn
        · intro j dj hj hjd hdj
          by_cases e : dj = d
          · subst e
            rw [hd, dstAt_of ho hd]; simp only [updo, upd_same]
          · have hji : j ≠ i := by
              rintro rfl
              obtain ⟨oj, hoj, hdj'⟩ := dstIs_dst hdj
              rw [ho] at hoj; cases hoj; rw [hd] at hdj'; cases hdj'; exact e rfl
            have hjd' : dn j = true ∨ isQ n0 ops j = false := by simp only [if_neg hji] at hjd; exact hjd
            rw [hd]; simp only [updo, upd_ne _ _ e]
            exact hagr.2 j dj hj hjd' hdj
      split
      · rename_i hw
        rw [if_pos hw] at hag
        refine (exec_congr (opnds_ev hopn hdepS (fun _ _ _ hk _ _ => .inr hk) hagr).symm hag).mono ?_
        rintro v w' ⟨rfl, hv⟩
        exact key v hv
      · rename_i hw
        rw [if_neg hw] at hag
        exact key undef hag.symm
    | false =>
      have hniq : i ∉ qd := fun hm => by have := (hc.nq i hm).2.1; rw [hq] at this; cases this
      obtain ⟨l, ag, r, hok, hdl⟩ : ∃ l ag r, planOK n0 ops T (.e i ag r) (some l) qd ed = true ∧ DL P ops K (.e i ag r) gk w := by
        rcases hnode with e | ⟨hst, _, hsp⟩
        · subst e; exact (hniq (hdoneq hc.ok)).elim
        · rcases hstage _ hst with h | h
          · exact (hniq h).elim
          · obtain ⟨ag, r, h1, h2⟩ := hsp i h; exact ⟨_, ag, r, h1, h2⟩
      simp only [planOK, Bool.and_eq_true] at hok
      obtain ⟨⟨⟨⟨_, hb'⟩, _⟩, hagq⟩, hrest⟩ := hok
      obtain ⟨o', ho', hdl⟩ := hdl
      rw [ho] at ho'; cases ho'
      simp only [ho, Bool.and_eq_true] at hb'
      obtain ⟨⟨⟨_, _⟩, hdep⟩, hopn⟩ := hb'
      rw [← opnds_want hopn hdepS hagr] at hdl
      have key : ∀ v w', (∀ j ∈ qd, (if j = i then true else dn j) = false → AgainAt P ops (updo gk o.dst v) w' j) → DL P ops K r (updo gk o.dst v) w' → I (fun j => if j = i then true else dn j) (updo g o.dst v) w' := by
        intro v w' hag hdl
        have hc1 : Canon P n0 ops T K r (updo gk o.dst v) w' qd (i :: ed) (fun j => if j = i then true else dn j) := by
          refine ⟨hrest, hdl, ?_, ?_, hag⟩
          · intro j hj
            obtain ⟨hj0, hjq, oj, hoj, hqj, hopj, hdj⟩ := hc.nq j hj
            exact ⟨hj0, hjq, oj, hoj, hqj, hopj, fun k hk => (hdj k hk).imp (fun h => h) (List.mem_cons_of_mem _)⟩
          · intro j hj
            rcases List.mem_cons.1 hj with e | hj
            · rw [e]; exact ⟨hi, hq⟩
            · exact hc.ne j hj
        obtain ⟨p', gk', qd', hc', h1, h2, h3⟩ := Canon.advance hI r (updo gk o.dst v) qd hc1
        refine ⟨p', gk', qd', i :: ed, hc', h1, ?_, ?_, ?_, hdc'⟩
        · intro j hj
          by_cases e : j = i
          · rw [e]; exact ⟨hi, .inr (by simp)⟩
          · simp only [if_neg e] at hj
            exact ⟨(hd1 j hj).1, (hd1 j hj).2.imp (h2 j) (List.mem_cons_of_mem _)⟩
        · intro j hj
          by_cases e : j = i
          · simp only [if_pos e]
          · simp only [if_neg e]
            exact hd2 j ((List.mem_cons.1 hj).resolve_left e)
        · refine Agr.trans (S := fun j => (if j = i then true else dn j) = true ∨ isQ n0 ops j = false) (S' := fun j => (j ∈ qd ∨ j ∈ i :: ed) ∨ isQ n0 ops j = false) (g' := updo gk o.dst v) (agr_both hI hi ho hagr fun j hj hne => by simp only [if_neg hne] at hj; exact hj) h3 ?_
          · intro j hj
            by_cases e : j = i
            · rw [e]; exact .inl (.inr (by simp))
            · simp only [if_neg e] at hj
              exact hj.imp (fun h => (hd1 j h).2.imp (fun h => h) (List.mem_cons_of_mem _)) (fun h => h)
      split
      · rename_i hw
        rw [if_pos hw] at hdl
        refine (exec_congr (opnds_ev hopn hdepS (fun _ _ _ hk _ _ => .inr hk) hagr).symm hdl).mono ?_
        rintro v w' ⟨hagv, hdlv⟩
        refine key v w' ?_ hdlv
        intro j hj hjd
        have hjd' : dn j = false := by
          split at hjd
          · cases hjd
          · exact hjd
        have := List.all_eq_true.1 hagq j hj
        simp only [Bool.or_eq_true, List.any_eq_true] at this
        rcases this with (h | h) | ⟨k, hk, h⟩
        · exact hagv j (by simpa using h)
        · have := hanc j (by simpa using h); rw [hjd'] at this; cases this
        · obtain ⟨hk0, _⟩ := hc.ne k hk
          obtain ⟨ok, hok⟩ := hI.1 k hk0
          have := anc_dn hT hdc hb k ok hok (hdc k ok (hd2 k hk) hok) j (by simpa using h)
          rw [hjd'] at this; cases this
      · rename_i hw
        rw [if_neg hw] at hdl
        refine key undef w ?_ hdl
        intro j hj hjd
        have hjd' : dn j = false := by
          split at hjd
          · cases hjd
          · exact hjd
        obtain ⟨hj0, hjq, oj, hoj, hqj, hopj, hdj⟩ := hc.nq j hj
        have hne : ∀ k, k ∈ qd ∨ k ∈ ed → k ≠ i := by
          rintro k (h | h) rfl
          · exact hniq h
          · exact hnoted h
        refine again_agr (S := fun k => ((k ∈ qd ∨ k ∈ ed) ∨ isQ n0 ops k = false) ∧ k ≠ i) hj0 hoj hopj (fun k hk => ⟨.inl (hdj k hk), hne k (hdj k hk)⟩) ?_ ⟨.inl (.inl hj), hne j (.inl hj)⟩ (isQ_dst hjq hoj) (agr_upd hI hi ho (fun hm => hm.2 rfl)) (hc.ag j hj hjd')
        intro k ok _ hkq hok hjk
        refine ⟨.inr hkq, ?_⟩
        rintro rfl
        rw [ho] at hok; cases hok
        have := hdepdn j hjk
        rw [hjd'] at this; cases this
  · rintro dn g w hall ⟨p, gk, qd, ed, hc, hnq, hd1, hd2, hagr, hdc⟩
    have hg : g = gk := by
      funext n
      by_cases hn : ∀ k, k < n0 → dstIs ops k n = false
      · exact hagr.1 n hn
      · obtain ⟨k, hk, hd'⟩ : ∃ k, k < n0 ∧ dstIs ops k n = true := by
          refine Classical.byContradiction fun hc => hn fun k hk => ?_
          cases hd : dstIs ops k n with
          | false => rfl
          | true => exact absurd ⟨k, hk, hd⟩ hc
        exact hagr.2 k n hk (.inl (hall k hk)) hd'
    subst hg
    rcases node_spec p hnq hc.ok hc.dl with e | ⟨_, hne, hsp⟩
    · subst e; exact hc.dl
    · obtain ⟨i', hi'⟩ := List.exists_mem_of_ne_nil _ hne
      obtain ⟨ag, r, hok, _⟩ := hsp i' hi'
      simp only [planOK, Bool.and_eq_true] at hok
      obtain ⟨⟨⟨⟨hi', hb'⟩, _⟩, _⟩, _⟩ := hok
      have hi'' : i' < n0 := by simpa [Nat.blt_eq] using hi'
      have hdn := hall i' hi''
      obtain ⟨o', ho'⟩ := hI.1 i' hi''
      simp only [ho', Bool.and_eq_true, Bool.not_eq_true'] at hb'
      rcases (hd1 i' hdn).2 with hm | hm
      · have := (hc.nq i' hm).2.1
        rw [hb'.1.1.1] at this; cases this
      · have := hb'.1.1.2
        simp [hm] at this
end
/-! ### as the printed walks show it -/
section
variable {P : Program} {ops : List Oper} {K : Fr → World → Prop} {f : Fr} {w : World} {i : Nat} {o : Oper} {r : DPlan}
theorem DL_q (ho : ops[i]? = some o) (hg : o.guard = none) (h : Exec P (ev f) o w fun v w' => w' = w ∧ DL P ops K r (updo f o.dst v) w) : DL P ops K (.q i r) f w :=
  ⟨o, ho, by rw [if_pos (by simp [Region.wanted, hg])]; exact h⟩
variable {ag : List Nat}
theorem DL_e (ho : ops[i]? = some o) (hg : o.guard = none) (h : Exec P (ev f) o w fun v w' => (∀ j ∈ ag, AgainAt P ops (updo f o.dst v) w' j) ∧ DL P ops K r (updo f o.dst v) w') : DL P ops K (.e i ag r) f w :=
  ⟨o, ho, by rw [if_pos (by simp [Region.wanted, hg])]; exact h⟩
theorem ag_nil {p : Nat → Prop} : ∀ j ∈ ([] : List Nat), p j := by simp
theorem ag_cons {p : Nat → Prop} {j : Nat} {l : List Nat} (h : p j) (hl : ∀ k ∈ l, p k) : ∀ k ∈ j :: l, p k := by
  intro k hk; rcases List.mem_cons.1 hk with rfl | hk
  · exact h
  · exact hl k hk
theorem ag_r (ho : ops[i]? = some o) (hg : o.guard = none) (h : Exec P (ev f) o w fun v w' => w' = w ∧ v = f (dstAt ops i)) : AgainAt P ops f w i := by
  intro o' ho'; rw [ho] at ho'; cases ho'; rw [if_pos (by simp [Region.wanted, hg])]; exact h
end
section
variable {P : Program} {ρ : Operand → Value} {o : Oper} {w w0 : World} {s : PHeap} {H : List Res} {K : Value → World → Prop} {T : TypeId}
theorem DL_alt {ops : List Oper} {K : Fr → World → Prop} {f : Fr} {p q : DPlan} (h : DL P ops K p f w) (k : DL P ops K q f w) : DL P ops K (.alt p q) f w := ⟨h, k⟩
theorem DL_done {ops : List Oper} {K : Fr → World → Prop} {f : Fr} (h : K f w) : DL P ops K .done f w := h
theorem Exec.index_repE {α : Type} {E : Enc α} {xs : List α} {y : α} {x i : Operand} {v : Value} {k : IntKind} {n : Int} {e by_ : Nat} (hT : tySlice P T = some (e, E.sz, by_)) (ho : o.op = .indexAddr T x i) (hx : ρ x = v) (hi : ρ i = .int k n)
    (h : SliceRep E s v xs) (hy : idx xs n = some y) (hk : ∀ b off, At s b off E y → (∀ w' : World, (Instr.indexAt T v (.int k n)).run P w' = .ok (.pointer (some ⟨b, off, none⟩)) w') → K (.pointer (some ⟨b, off, none⟩)) w) : Exec P ρ o w K := by
  obtain ⟨h0, h1, _⟩ := idx_some hy
  obtain ⟨b, off, c, rfl, hat⟩ := h.at hy
  exact Exec.index_slice hT ho hx hi h0 h1 (hk _ _ hat fun w' => run_indexAt hT h0 h1)
end
end Go.Pw
