/- -/
import Derived.Test.YteiainhbhaodoaaGreatL6
import Derived.Orders
set_option linter.unusedSimpArgs false
set_option linter.unusedVariables false
namespace Go.Pw
inductive DPlan where
 | done
 | q (i : Nat) (r : DPlan)
 | e (i : Nat) (ag : List Nat) (r : DPlan)
 | alt (p q : DPlan)
def Qbm (o : Oper) : Bool := match o.op with
 | .move _ | .assign _ | .pick _ _ _ | .build _ _ | .load _ _ | .nilCheck _ | .binOp _ _ _ _ _ | .unOp _ _ _ | .convert _ _ _ | .makeInterface _ _ | .slice _ _ _ _ _ | .fieldAddr _ _ _ | .field _ _ _
 | .indexAddr _ _ _ | .index _ _ _ | .typeAssert _ _ _ _ | .extract _ _ | .lookup _ _ _ _ => true
 | .call c => match c.callee with | .builtin .len | .builtin .cap | .builtin .min | .builtin .max => true | _ => false
 | _ => false
def QiF (o : Oper) : Bool := match o.op with | .select _ _ => false | _ => true
def QiG : Next → Prop | .value _ => True | _ => False
theorem QiH {s : Sem Value} {P : Program} {w w' : World} {n : Next} (h : (do pure (.value (← s)) : Sem Next).run P w = .ok n w') : QiG n := by
 rw [Sem.run_bind] at h
 cases hs : s.run P w with
 | ok a w1 => rw [hs] at h; simp only [Result.andThen_ok, Sem.run_pure, Result.ok.injEq] at h; rw [← h.1]; trivial
 | halt x w1 => rw [hs] at h; simp [Result.andThen] at h
def Qgd (P : Program) (s : Sem Next) : Prop := ∀ w n w', s.run P w = .ok n w' → QiG n
theorem Qd5 {P : Program} {v : Value} : Qgd P (pure (.value v)) := by
 intro w n w' h; simp only [Sem.run_pure, Result.ok.injEq] at h; rw [← h.1]; trivial
theorem Qdf {α : Type} {P : Program} {s : Sem α} {k : α → Sem Next} (hk : ∀ a, Qgd P (k a)) : Qgd P (s >>= k) := by
 intro w n w' h
 rw [Sem.run_bind] at h
 cases hs : s.run P w with
 | ok a w1 => rw [hs] at h; exact hk a w1 n w' h
 | halt x w1 => rw [hs] at h; simp [Result.andThen] at h
theorem Qio {P : Program} {ρ : Operand → Value} {o : Oper} {w w' : World} {n : Next} (hq : Qbm o = true) (h : (execOp ρ o).run P w = .ok n w') : QiG n := by
 obtain ⟨dst, op, type, pos, after, guard⟩ := o
 cases op <;> simp only [Qbm] at hq <;> first | (cases hq; done) | skip
 case move x => simp only [execOp, Sem.run_pure, Result.ok.injEq] at h; rw [← h.1]; trivial
 case assign x => simp only [execOp, Sem.run_pure, Result.ok.injEq] at h; rw [← h.1]; trivial
 case pick c a b =>
  simp only [execOp, Sem.run_bind] at h
  cases hs : (asBool (ρ c)).run P w with
  | ok a w1 => rw [hs] at h; simp only [Result.andThen_ok, Sem.run_pure, Result.ok.injEq] at h; rw [← h.1]; trivial
  | halt x w1 => rw [hs] at h; simp [Result.andThen] at h
 case nilCheck x =>
  simp only [execOp] at h
  split at h
  ·simp [runtimePanic, Sem.run] at h
   try (split at h <;> simp_all)
  ·simp [runtimePanic, Sem.run] at h
   try (split at h <;> simp_all)
  ·simp [runtimePanic, Sem.run] at h
   try (split at h <;> simp_all)
  ·split at h
   ·simp [runtimePanic, Sem.run] at h
    try (split at h <;> simp_all)
   ·exact Qdf (fun _ => Qdf (fun _ => by split <;> first | exact Qdf fun _ => Qd5 | exact Qd5)) _ _ _ h
   ·simp only [Sem.run_pure, Result.ok.injEq] at h; rw [← h.1]; trivial
  ·simp only [Sem.run_pure, Result.ok.injEq] at h; rw [← h.1]; trivial
 case call c =>
  obtain ⟨callee, args, argTypes⟩ := c
  cases callee with
  | value f => cases hq
  | invoke r m => cases hq
  | builtin b =>
   cases b <;> first | (cases hq; done) | exact QiH (by simpa only [execOp, resolve, invoke, builtin, Sem.run_bind, Sem.run_pure, Result.andThen_ok] using h)
 all_goals exact QiH h
theorem Qhm {P : Program} {ρ : Operand → Value} {o : Oper} {w : World} {K : Value → World → Prop} (hq : Qbm o = true) (h : Exec P ρ o w K) : ∃ v w', (execOp ρ o).run P w = .ok (.value v) w' ∧ K v w' := by
 unfold Exec at h
 cases hr : (execOp ρ o).run P w with
 | halt x w1 => rw [hr] at h; exact h.elim
 | ok n w1 =>
  have hv := Qio hq hr
  cases n <;> first | exact hv.elim | skip
  rw [hr] at h
  exact ⟨_, _, Z, h⟩
theorem Qdk {P : Program} {ρ ρ' : Operand → Value} {o : Oper} {w : World} {K : Value → World → Prop} (he : execOp ρ o = execOp ρ' o) (h : Exec P ρ o w K) : Exec P ρ' o w K := by
 unfold Exec at *; rw [← he]; exact h
def Yi (o : Oper) : List Nat := (o.after.toList.filter (Region.binds .any)).map (·.on)
theorem Qgw {o : Oper} {j : Nat} : j ∈ Yi o ↔ ∃ e ∈ o.after, Region.binds .any e = true ∧ e.on = j := by
 simp only [Yi, List.mem_map, List.mem_filter, Array.mem_toList_iff]
 constructor
 ·rintro ⟨e, ⟨h1, h2⟩, h3⟩; exact ⟨e, h1, h2, h3⟩
 ·rintro ⟨e, h1, h2, h3⟩; exact ⟨e, ⟨h1, h2⟩, h3⟩
def Jh (P : Program) (ops : List Oper) (f : Fr) (w : World) (j : Nat) : Prop :=
 ∀ o, ops[j]? = some o → if Region.wanted o (Jf ops.toArray f) then Exec P (ev f) o w (fun v w' => w' = w ∧ v = f (QaC ops j)) else f (QaC ops j) = undef
def DL (P : Program) (ops : List Oper) (K : Fr → World → Prop) : DPlan → Fr → World → Prop
 | .done, f, w => K f w
 | .q i r, f, w => ∃ o, ops[i]? = some o ∧ (if Region.wanted o (Jf ops.toArray f) then Exec P (ev f) o w (fun v w' => w' = w ∧ DL P ops K r (J9 f o.dst v) w) else DL P ops K r (J9 f o.dst undef) w)
 | .e i ag r, f, w => ∃ o, ops[i]? = some o ∧ (if Region.wanted o (Jf ops.toArray f) then Exec P (ev f) o w (fun v w' => (∀ j ∈ ag, Jh P ops (J9 f o.dst v) w' j) ∧ DL P ops K r (J9 f o.dst v) w') else DL P ops K r (J9 f o.dst undef) w)
 | .alt p q, f, w => DL P ops K p f w ∧ DL P ops K q f w
def QiQ (ops : List Oper) : List (List Nat) := ops.foldl (fun T o => T ++ [((Yi o) ++ (Yi o).flatMap fun j => T.getD j []).eraseDups]) []
def QcK (T : List (List Nat)) (i : Nat) : List Nat := T.getD i []
def QhR (ops : List Oper) (T : List (List Nat)) : Bool := (List.range T.length).all fun i => match ops[i]? with
 | none => false
 | some o => (QcK T i).all fun j => (Yi o).contains j || (Yi o).any fun k => (QcK T k).contains j
def Qao (ops : List Oper) (k u : Nat) : Bool := match (ops[k]?).bind (·.dst) with | some d => Nat.beq d u | none => false
def QkQ (o : Oper) (u : Nat) : Bool := o.op.operands.toList.any fun x => match x with | .tmp t => Nat.beq t u | _ => false
def isQ (n0 : Nat) (ops : List Oper) (i : Nat) : Bool := match ops[i]? with
 | none => false
 | some o => Qbm o && (match o.dst with
  | none => false
  | some d => (List.range n0).all fun k => match ops[k]? with | some o' => !(QkQ o' d) || (Yi o').contains i | none => true)
def QiD (n0 : Nat) (ops : List Oper) (i : Nat) (o : Oper) (u : Nat) : Bool := ((List.range n0).all fun k => !Qao ops k u || (!isQ n0 ops k && (match ops[k]? with | some ok => (Yi ok).contains i | none => false))) || (Yi o).any fun k => Nat.blt k n0 && Qao ops k u
def Qbn (n0 : Nat) (ops : List Oper) (i : Nat) (o : Oper) : Bool :=
 (o.op.operands.toList.all fun x => match x with | .tmp u => QiD n0 ops i o u | _ => true) && (match o.guard with | some (j, _) => (Yi o).contains j && Nat.blt j n0 | none => true) && QiF o
def Qds (n0 : Nat) (ops : List Oper) (T : List (List Nat)) (nx : List Nat) (qd ed : List Nat) : Bool :=
 (List.range n0).all fun i => qd.contains i || ed.contains i || nx.contains i || (QcK T i).any fun j => !isQ n0 ops j && !qd.contains j && !ed.contains j
def Kq : DPlan → List Nat
 | .e i _ _ => [i]
 | .alt p q => Kq p ++ Kq q
 | _ => []
def Kk (n0 : Nat) (ops : List Oper) (T : List (List Nat)) : DPlan → Option (List Nat) → List Nat → List Nat → Bool
 | .done, nx, qd, ed => nx.isNone && (List.range n0).all fun i => qd.contains i || ed.contains i
 | .q i r, nx, qd, ed => nx.isNone && Nat.blt i n0 && (match ops[i]? with
  | some o => isQ n0 ops i && Qbm o && !qd.contains i && ((Yi o).all fun j => qd.contains j || ed.contains j) && Qbn n0 ops i o
  | none => false) && Kk n0 ops T r none (i :: qd) ed
 | .e i ag r, nx, qd, ed => Nat.blt i n0 && (match ops[i]? with
  | some o => !isQ n0 ops i && !ed.contains i && ((Yi o).all fun j => qd.contains j || ed.contains j) && Qbn n0 ops i o
  | none => false) && Qds n0 ops T (nx.getD [i]) qd ed && (qd.all fun j => ag.contains j || (QcK T i).contains j || ed.any fun k => (QcK T k).contains j) && Kk n0 ops T r none qd (i :: ed)
 | .alt p q, nx, qd, ed => Kk n0 ops T p (some (nx.getD (Kq p ++ Kq q))) qd ed && Kk n0 ops T q (some (nx.getD (Kq p ++ Kq q))) qd ed
def QkL (n0 : Nat) (ops : List Oper) (p : DPlan) : Bool := let T := QiQ ops; QhR ops T && Nat.beq T.length ops.length && Kk n0 ops T p none [] []
def Agr (n0 : Nat) (ops : List Oper) (S : Nat → Prop) (g g' : Fr) : Prop := (∀ n, (∀ k, k < n0 → Qao ops k n = false) → g n = g' n) ∧ ∀ i d, i < n0 → S i → Qao ops i d = true → g d = g' d
theorem QjB {n0 : Nat} {ops : List Oper} {i : Nat} {o : Oper} {u : Nat} {S : Nat → Prop} {g g' : Fr} (h : QiD n0 ops i o u = true) (hS : ∀ j ∈ Yi o, S j) (hA : ∀ k ok, k < n0 → isQ n0 ops k = false → ops[k]? = some ok → i ∈ Yi ok → S k) (ha : Agr n0 ops S g g') : g u = g' u := by
 simp only [QiD, Bool.or_eq_true, List.all_eq_true, List.mem_range, Bool.not_eq_true', List.any_eq_true, Bool.and_eq_true] at h
 rcases h with h | ⟨k, hk, hk0, hd⟩
 ·by_cases hn : ∀ k, k < n0 → Qao ops k u = false
  ·exact ha.1 u hn
  ·obtain ⟨k, hk, hd⟩ : ∃ k, k < n0 ∧ Qao ops k u = true := by
    refine Classical.byContradiction fun hc => hn fun k hk => ?_
    cases hd : Qao ops k u with
    | false => rfl
    | true => exact absurd ⟨k, hk, hd⟩ hc
   rcases h k hk with h | ⟨h1, h2⟩
   ·rw [hd] at h; cases h
   ·cases hok : ops[k]? with
    | none => rw [hok] at h2; cases h2
    | some ok =>
     rw [hok] at h2
     exact ha.2 k u hk (hA k ok hk h1 hok (by simpa using h2)) hd
 ·exact ha.2 k u (by simpa [Nat.blt_eq] using hk0) (hS k hk) hd
theorem Qdw {n0 : Nat} {ops : List Oper} {i : Nat} {o : Oper} {S : Nat → Prop} {g g' : Fr} (h : Qbn n0 ops i o = true) (hS : ∀ j ∈ Yi o, S j) (hA : ∀ k ok, k < n0 → isQ n0 ops k = false → ops[k]? = some ok → i ∈ Yi ok → S k) (ha : Agr n0 ops S g g') : execOp (ev g) o = execOp (ev g') o := by
 simp only [Qbn, Bool.and_eq_true, List.all_eq_true] at h
 refine execOp_congr o ?_ ?_
 ·intro cs b he; have := h.2; simp [QiF, he] at this
 ·intro x hx
  have := h.1.1 x (by simpa using hx)
  cases x with
  | tmp u => exact QjB this hS hA ha
  | _ => rfl
theorem QaW {n0 : Nat} {ops : List Oper} {i : Nat} {o : Oper} {S : Nat → Prop} {g g' : Fr} (h : Qbn n0 ops i o = true) (hS : ∀ j ∈ Yi o, S j) (ha : Agr n0 ops S g g')  :
  Region.wanted o (Jf ops.toArray g) = Region.wanted o (Jf ops.toArray g') := by
 simp only [Qbn, Bool.and_eq_true] at h
 unfold Region.wanted
 cases hg : o.guard with
 | none => rfl
 | some gw =>
  obtain ⟨j, want⟩ := gw
  have h2 := h.1.2
  simp only [hg, Bool.and_eq_true] at h2
  have hj : j ∈ Yi o := by simpa using h2.1
  have hj0 : j < n0 := by simpa [Nat.blt_eq] using h2.2
  have : Jf ops.toArray g j = Jf ops.toArray g' j := by
   unfold Jf
   cases hd : (ops.toArray[j]?).bind (·.dst) with
   | none => rfl
   | some d =>
    have e1 : Qao ops j d = true := by
     unfold Qao
     have : (ops[j]?).bind (·.dst) = some d := by simpa using hd
     rw [this]; simp
    have he := ha.2 j d hj0 (hS j hj) e1
    simp only [he]
  simp only [this]
def Qj4 : DPlan → Prop | .q _ _ => False | _ => True
structure Canon (P : Program) (n0 : Nat) (ops : List Oper) (T : List (List Nat)) (K : Fr → World → Prop) (p : DPlan) (gk : Fr) (w : World) (qd ed : List Nat) (dn : Nat → Bool) : Prop where
 ok : Kk n0 ops T p none qd ed = true
 dl : DL P ops K p gk w
 nq : ∀ i ∈ qd, i < n0 ∧ isQ n0 ops i = true ∧ ∃ o, ops[i]? = some o ∧ Qbm o = true ∧ Qbn n0 ops i o = true ∧ ∀ j ∈ Yi o, j ∈ qd ∨ j ∈ ed
 ne : ∀ i ∈ ed, i < n0 ∧ isQ n0 ops i = false
 ag : ∀ i ∈ qd, dn i = false → Jh P ops gk w i
def Qj9 (n0 : Nat) (ops : List Oper) : Prop := (∀ i, i < n0 → ∃ o, ops[i]? = some o) ∧ ∀ (i j : Nat) (oi oj : Oper) (d : Nat), i < n0 → j < n0 → ops[i]? = some oi → ops[j]? = some oj → oi.dst = some d → oj.dst = some d → i = j
theorem Qfa {ops : List Oper} {i d : Nat} {o : Oper} (ho : ops[i]? = some o) (hd : o.dst = some d) : QaC ops i = d := by simp [QaC, ho, hd]
theorem Qdx {ops : List Oper} {i d : Nat} {o : Oper} (ho : ops[i]? = some o) (hd : o.dst = some d) : Qao ops i d = true := by simp [Qao, ho, hd]
theorem Qc4 {ops : List Oper} {i d : Nat} (h : Qao ops i d = true) : ∃ o, ops[i]? = some o ∧ o.dst = some d := by
 unfold Qao at h
 cases ho : ops[i]? with
 | none => simp [ho] at h
 | some o =>
  cases hd : o.dst with
  | none => simp [ho, hd] at h
  | some d' => simp [ho, hd] at h; exact ⟨o, rfl, by rw [hd, h]⟩
theorem Qe9 {n0 : Nat} {ops : List Oper} {i : Nat} {o : Oper} (h : isQ n0 ops i = true) (ho : ops[i]? = some o) : ∃ d, o.dst = some d := by
 simp only [isQ, ho, Bool.and_eq_true] at h
 cases hd : o.dst with
 | none => simp [hd] at h
 | some d => exact ⟨d, rfl⟩
theorem Qgc {n0 : Nat} {ops : List Oper} {S : Nat → Prop} {g : Fr} {i : Nat} {o : Oper} {v : Value} (hI : Qj9 n0 ops) (hi : i < n0) (ho : ops[i]? = some o) (hS : ¬ S i) : Agr n0 ops S g (J9 g o.dst v) := by
 cases hd : o.dst with
 | none => exact ⟨fun _ _ => rfl, fun _ _ _ _ _ => rfl⟩
 | some d =>
  refine ⟨fun n hn => ?_, fun j dj hj hSj hdj' => ?_⟩
  ·have : n ≠ d := by rintro rfl; have := hn i hi; rw [Qdx ho hd] at this; cases this
   simp only [J9, QcX _ _ this]
  ·obtain ⟨oj, hoj, hdj⟩ := Qc4 hdj'
   have : dj ≠ d := by rintro rfl; exact hS ((hI.2 i j o oj dj hi hj ho hoj hd hdj) ▸ hSj)
   simp only [J9, QcX _ _ this]
theorem Qjy {n0 : Nat} {ops : List Oper} {S S' : Nat → Prop} {g g' : Fr} {i : Nat} {o : Oper} {v : Value} (hI : Qj9 n0 ops) (hi : i < n0) (ho : ops[i]? = some o) (h : Agr n0 ops S g g') (hS : ∀ j, S' j → j ≠ i → S j) : Agr n0 ops S' (J9 g o.dst v) (J9 g' o.dst v) := by
 cases hd : o.dst with
 | none =>
  refine ⟨h.1, fun j dj hj hSj hdj => ?_⟩
  by_cases e : j = i
  ·subst e
   obtain ⟨oj, hoj, hdj'⟩ := Qc4 hdj
   rw [ho] at hoj; cases hoj; rw [hd] at hdj'; cases hdj'
  ·exact h.2 j dj hj (hS j hSj e) hdj
 | some d =>
  refine ⟨fun n hn => ?_, fun j dj hj hSj hdj => ?_⟩
  ·have : n ≠ d := by rintro rfl; have := hn i hi; rw [Qdx ho hd] at this; cases this
   simp only [J9, QcX _ _ this]
   exact h.1 n hn
  ·by_cases e : dj = d
   ·subst e; simp only [J9, QeL]
   ·simp only [J9, QcX _ _ e]
    refine h.2 j dj hj (hS j hSj ?_) hdj
    rintro rfl
    obtain ⟨oj, hoj, hdj'⟩ := Qc4 hdj
    rw [ho] at hoj; cases hoj; rw [hd] at hdj'; cases hdj'; exact e rfl
theorem QfH {P : Program} {n0 : Nat} {ops : List Oper} {S : Nat → Prop} {g g' : Fr} {w : World} {j : Nat} {o : Oper} (hj : j < n0) (ho : ops[j]? = some o) (hk : Qbn n0 ops j o = true) (hS : ∀ k ∈ Yi o, S k) (hA : ∀ k ok, k < n0 → isQ n0 ops k = false → ops[k]? = some ok → j ∈ Yi ok → S k) (hSj : S j) (hd : ∃ d, o.dst = some d) (ha : Agr n0 ops S g g') (h : Jh P ops g w j) : Jh P ops g' w j := by
 intro o' ho'
 rw [ho] at ho'
 cases ho'
 have h1 := h o ho
 obtain ⟨d, hd⟩ := hd
 have hval : g (QaC ops j) = g' (QaC ops j) := by rw [Qfa ho hd]; exact ha.2 j d hj hSj (Qdx ho hd)
 rw [QaW hk hS ha, hval] at h1
 split
 ·rename_i hw
  rw [if_pos hw] at h1
  exact Qdk (Qdw hk hS hA ha) h1
 ·rename_i hw
  rw [if_neg hw] at h1
  exact h1
theorem Agr.trans {n0 : Nat} {ops : List Oper} {S S' : Nat → Prop} {g g' g'' : Fr} (h : Agr n0 ops S g g') (k : Agr n0 ops S' g' g'') (hs : ∀ i, S i → S' i) : Agr n0 ops S g g'' :=
 ⟨fun n hn => (h.1 n hn).trans (k.1 n hn), fun i d hi hS hd => (h.2 i d hi hS hd).trans (k.2 i d hi (hs i hS) hd)⟩
theorem Qb1 {P : Program} {n0 : Nat} {ops : List Oper} {T : List (List Nat)} {K : Fr → World → Prop} (hI : Qj9 n0 ops) {w : World} {ed : List Nat} {dn : Nat → Bool} : ∀ (p : DPlan) (gk : Fr) (qd : List Nat), Canon P n0 ops T K p gk w qd ed dn →
  ∃ p' gk' qd', Canon P n0 ops T K p' gk' w qd' ed dn ∧ Qj4 p' ∧ (∀ i ∈ qd, i ∈ qd') ∧ Agr n0 ops (fun i => (i ∈ qd ∨ i ∈ ed) ∨ isQ n0 ops i = false) gk gk'
 | .done, gk, qd, h => ⟨.done, gk, qd, h, trivial, fun _ h => h, fun _ _ => rfl, fun _ _ _ _ _ => rfl⟩
 | .alt p q, gk, qd, h => ⟨.alt p q, gk, qd, h, trivial, fun _ h => h, fun _ _ => rfl, fun _ _ _ _ _ => rfl⟩
 | .e i ag r, gk, qd, h => ⟨.e i ag r, gk, qd, h, trivial, fun _ h => h, fun _ _ => rfl, fun _ _ _ _ _ => rfl⟩
 | .q i r, gk, qd, h => by
  obtain ⟨o, ho, hdl⟩ := h.dl
  have hok := h.ok
  simp only [Kk, Bool.and_eq_true, ho] at hok
  obtain ⟨⟨⟨_, hi⟩, ⟨⟨⟨hiq, hq⟩, hnq⟩, hdep⟩, hopn⟩, hrest⟩ := hok
  have hi' : i < n0 := by simpa [Nat.blt_eq] using hi
  have hnq' : i ∉ qd := by simpa using hnq
  have hne : i ∉ ed := fun hm => by have := (h.ne i hm).2; rw [hiq] at this; cases this
  have hnS : ¬ ((i ∈ qd ∨ i ∈ ed) ∨ isQ n0 ops i = false) := by
   rintro ((h | h) | h)
   ·exact hnq' h
   ·exact hne h
   ·rw [hiq] at h; cases h
  have hdeps : ∀ j ∈ Yi o, j ∈ qd ∨ j ∈ ed := by
   intro j hj
   have := List.all_eq_true.1 hdep j hj
   simpa using this
  obtain ⟨d, hd⟩ := Qe9 hiq ho
  have key : ∀ v, (∀ g', g' = J9 gk o.dst v → Jh P ops g' w i) → DL P ops K r (J9 gk o.dst v) w → ∃ p' gk' qd', Canon P n0 ops T K p' gk' w qd' ed dn ∧ Qj4 p' ∧ (∀ i ∈ qd, i ∈ qd') ∧ Agr n0 ops (fun i => (i ∈ qd ∨ i ∈ ed) ∨ isQ n0 ops i = false) gk gk' := by
   intro v hag hdl
   have hA : Agr n0 ops (fun i => (i ∈ qd ∨ i ∈ ed) ∨ isQ n0 ops i = false) gk (J9 gk o.dst v) := Qgc hI hi' ho hnS
   have hc1 : Canon P n0 ops T K r (J9 gk o.dst v) w (i :: qd) ed dn := by
    refine ⟨hrest, hdl, ?_, h.ne, ?_⟩
    ·intro j hj
     rcases List.mem_cons.1 hj with e | hj
     ·rw [e]; exact ⟨hi', hiq, o, ho, hq, hopn, fun k hk => (hdeps k hk).imp (List.mem_cons_of_mem _) (fun h => h)⟩
     ·obtain ⟨hj0, hjq, oj, hoj, hqj, hopj, hdj⟩ := h.nq j hj
      exact ⟨hj0, hjq, oj, hoj, hqj, hopj, fun k hk => (hdj k hk).imp (List.mem_cons_of_mem _) (fun h => h)⟩
    ·intro j hj hdn
     rcases List.mem_cons.1 hj with e | hj
     ·rw [e]; exact hag _ rfl
     ·obtain ⟨hj0, hjq, oj, hoj, hqj, hopj, hdj⟩ := h.nq j hj
      exact QfH (S := fun i => (i ∈ qd ∨ i ∈ ed) ∨ isQ n0 ops i = false) hj0 hoj hopj (fun k hk => .inl (hdj k hk)) (fun _ _ _ hk _ _ => .inr hk) (.inl (.inl hj)) (Qe9 hjq hoj) hA (h.ag j hj hdn)
   obtain ⟨p', gk', qd', hc, h1, h2, h3⟩ := Qb1 hI r (J9 gk o.dst v) (i :: qd) hc1
   exact ⟨p', gk', qd', hc, h1, fun j hj => h2 j (List.mem_cons_of_mem _ hj), hA.trans h3 (fun j hj => hj.imp (fun h => h.imp (List.mem_cons_of_mem _) (fun h => h)) (fun h => h))⟩
  have hA : ∀ v, Agr n0 ops (fun i => (i ∈ qd ∨ i ∈ ed) ∨ isQ n0 ops i = false) gk (J9 gk o.dst v) := fun v => Qgc hI hi' ho hnS
  have hval : ∀ v, J9 gk o.dst v (QaC ops i) = v := fun v => by rw [Qfa ho hd, hd]; simp only [J9, QeL]
  have hd2 : ∀ j ∈ Yi o, (j ∈ qd ∨ j ∈ ed) ∨ isQ n0 ops j = false := fun j hj => .inl (hdeps j hj)
  split at hdl
  ·rename_i hw
   obtain ⟨v, w', hrun, rfl, hr⟩ := Qhm hq hdl
   refine key v ?_ hr
   rintro g' rfl o' ho'
   rw [ho] at ho'; cases ho'
   rw [← QaW hopn hd2 (hA v), if_pos hw]
   refine .of_run (v := v) ?_ ⟨Z, (hval v).symm⟩
   rw [← Qdw hopn hd2 (fun _ _ _ hk _ _ => .inr hk) (hA v)]
   exact hrun
  ·rename_i hw
   refine key undef ?_ hdl
   rintro g' rfl o' ho'
   rw [ho] at ho'; cases ho'
   rw [← QaW hopn hd2 (hA undef), if_neg hw]
   exact hval undef
theorem QiP {ops : List Oper} {T : List (List Nat)} (hT : QhR ops T = true) {dn : Nat → Bool} (hdc : ∀ i o, dn i = true → ops[i]? = some o → ∀ j ∈ Yi o, dn j = true) (hb : ∀ (i : Nat) (o : Oper), ops[i]? = some o → ∀ j ∈ Yi o, j < i) :
  ∀ (i : Nat) (o : Oper), ops[i]? = some o → (∀ j ∈ Yi o, dn j = true) → ∀ j ∈ QcK T i, dn j = true := by
 intro i
 induction i using Nat.strongRecOn with
 | _ i ih =>
  intro o ho hd j hj
  have hlt : i < T.length := by
   rcases Nat.lt_or_ge i T.length with h | h
   ·exact h
   ·unfold QcK at hj; rw [List.getD_eq_getElem?_getD, List.getElem?_eq_none h] at hj; simp at hj
  have := List.all_eq_true.1 hT i (by simpa using hlt)
  simp only [ho, List.all_eq_true, Bool.or_eq_true, List.any_eq_true] at this
  rcases this j hj with h | ⟨k, hk, h⟩
  ·exact hd j (by simpa using h)
  ·have hdk := hd k hk
   have hki := hb i o ho k hk
   have hk' : ∃ ok, ops[k]? = some ok := by
    have hil := (List.getElem?_eq_some_iff.1 ho).1
    exact ⟨ops[k]'(by omega), by simp [show k < ops.length by omega]⟩
   obtain ⟨ok, hok⟩ := hk'
   exact ih k hki ok hok (hdc k ok hdk hok) j (by simpa using h)
section
variable {P : Program} {n0 : Nat} {ops : List Oper} {T : List (List Nat)} {K : Fr → World → Prop} {gk : Fr} {w : World} {qd ed : List Nat}
theorem Qdz : ∀ (p : DPlan) (l : List Nat), Kk n0 ops T p (some l) qd ed = true → DL P ops K p gk w →
  Qds n0 ops T l qd ed = true ∧ Kq p ≠ [] ∧ ∀ i ∈ Kq p, ∃ ag r, Kk n0 ops T (.e i ag r) (some l) qd ed = true ∧ DL P ops K (.e i ag r) gk w
 | .done, l, h, _ => by simp [Kk] at h
 | .q i r, l, h, _ => by simp [Kk] at h
 | .e i ag r, l, h, hd => by
  refine ⟨?_, by simp [Kq], ?_⟩
  ·simp only [Kk, Bool.and_eq_true, Option.getD_some] at h
   exact h.1.1.2
  ·intro j hj
   simp only [Kq, List.mem_singleton] at hj
   subst hj
   exact ⟨ag, r, h, hd⟩
 | .alt p q, l, h, hd => by
  simp only [Kk, Bool.and_eq_true, Option.getD_some] at h
  obtain ⟨a1, a2, a3⟩ := Qdz p l h.1 hd.1
  obtain ⟨b1, b2, b3⟩ := Qdz q l h.2 hd.2
  refine ⟨a1, by simp [Kq, a2], ?_⟩
  intro j hj
  simp only [Kq, List.mem_append] at hj
  rcases hj with hj | hj
  ·exact a3 j hj
  ·exact b3 j hj
theorem QfD (p : DPlan) (hn : Qj4 p) (h : Kk n0 ops T p none qd ed = true) (hd : DL P ops K p gk w) :
  p = .done ∨ (Qds n0 ops T (Kq p) qd ed = true ∧ Kq p ≠ [] ∧ ∀ i ∈ Kq p, ∃ ag r, Kk n0 ops T (.e i ag r) (some (Kq p)) qd ed = true ∧ DL P ops K (.e i ag r) gk w) := by
 cases p with
 | done => exact .inl rfl
 | q => exact hn.elim
 | e i ag r =>
  refine .inr ?_
  exact Qdz (.e i ag r) [i] (by simpa only [Kk, Option.getD_some, Option.getD_none] using h) hd
 | alt p q =>
  refine .inr ?_
  exact Qdz (.alt p q) (Kq p ++ Kq q) (by simpa only [Kk, Option.getD_some, Option.getD_none] using h) hd
end
theorem QiM {α : Type} {f : α → Option Nat} : ∀ {l : List α} {i j : Nat} {a b : α} {d : Nat}, (l.filterMap f).Nodup → l[i]? = some a → l[j]? = some b → f a = some d → f b = some d → i = j
 | [], _, _, _, _, _, _, h, _, _, _ => by simp at h
 | x :: l, 0, 0, _, _, _, _, _, _, _, _ => rfl
 | x :: l, 0, j + 1, a, b, d, hn, ha, hb, hfa, hfb => by
  simp only [List.getElem?_cons_zero, Option.some.injEq] at ha
  subst ha
  rw [List.filterMap_cons_some hfa] at hn
  exact absurd (List.mem_filterMap.2 ⟨b, List.mem_of_getElem? (by simpa using hb), hfb⟩) (List.nodup_cons.1 hn).1
 | x :: l, i + 1, 0, a, b, d, hn, ha, hb, hfa, hfb => by
  simp only [List.getElem?_cons_zero, Option.some.injEq] at hb
  subst hb
  rw [List.filterMap_cons_some hfb] at hn
  exact absurd (List.mem_filterMap.2 ⟨a, List.mem_of_getElem? (by simpa using ha), hfa⟩) (List.nodup_cons.1 hn).1
 | x :: l, i + 1, j + 1, a, b, d, hn, ha, hb, hfa, hfb => by
  have hn' : (l.filterMap f).Nodup := by
   cases hx : f x with
   | none => rwa [List.filterMap_cons_none hx] at hn
   | some y => rw [List.filterMap_cons_some hx] at hn; exact (List.nodup_cons.1 hn).2
  have he : i = j := QiM hn' (by simpa using ha) (by simpa using hb) hfa hfb
  rw [he]
section
variable {P : Program} {N : Nat} {Q : Qaz} {f : Fr} {w : World}
theorem KM {id n0 : Nat} {ops : List Oper} (p : DPlan) (hm : P.follows .mixedOrders = true) (hok : QeA N n0 ops = true) (hp : QkL n0 ops p = true)
  (h : DL P ops (fun g w' => WL P N ops.toArray Q (ops.drop n0) g w') p f w.drew) : W P N (.region id ops.toArray true) Q f w := by
 have hok0 := hok
 simp only [QeA, Bool.and_eq_true, decide_eq_true_eq, List.all_eq_true, Bool.or_eq_true] at hok
 obtain ⟨⟨⟨⟨⟨hn0, hwait⟩, hdst⟩, _⟩, hnodup⟩, hback⟩ := hok
 have hn0' : n0 ≤ ops.length := by simpa [Nat.ble_eq] using hn0
 have hI : Qj9 n0 ops := by
  refine ⟨fun i hi => ⟨ops[i]'(by omega), by simp [show i < ops.length by omega]⟩, fun i j oi oj d hi hj hoi hoj hdi hdj => ?_⟩
  exact QiM (f := fun o : Oper => o.dst) hnodup (by rw [List.getElem?_take, if_pos hi]; exact hoi) (by rw [List.getElem?_take, if_pos hj]; exact hoj) hdi hdj
 have hb : ∀ (i : Nat) (o : Oper), ops[i]? = some o → ∀ j ∈ Yi o, j < i := by
  intro i o ho j hj
  obtain ⟨e, he, hbi, rfl⟩ := Qgw.1 hj
  have hi : i < ops.length := (List.getElem?_eq_some_iff.1 ho).1
  have := hback i (by simpa using hi)
  simp only [ho] at this
  have := Array.all_eq_true'.1 this e he
  simpa [Nat.blt_eq, hbi] using this
 simp only [QkL, Bool.and_eq_true] at hp
 obtain ⟨⟨hT, _⟩, hpl⟩ := hp
 generalize QiQ ops = T at hT hpl
 let K : Fr → World → Prop := fun g w' => WL P N ops.toArray Q (ops.drop n0) g w'
 let I : (Nat → Bool) → Fr → World → Prop := fun dn g w => ∃ p gk qd ed, Canon P n0 ops T K p gk w qd ed dn ∧ Qj4 p ∧ (∀ i, dn i = true → i < n0 ∧ (i ∈ qd ∨ i ∈ ed)) ∧ (∀ i ∈ ed, dn i = true) ∧ Agr n0 ops (fun i => dn i = true ∨ isQ n0 ops i = false) g gk ∧
  (∀ i o, dn i = true → ops[i]? = some o → ∀ j ∈ Yi o, dn j = true)
 refine QjU hm hok0 I ?_ ?_ ?_
 ·obtain ⟨p', gk', qd', hc, h1, _, h3⟩ := Qb1 (P := P) (K := K) (T := T) hI (w := w.drew) (ed := []) (dn := fun _ => false) p f [] ⟨hpl, h, by simp, by simp, by simp⟩
  exact ⟨p', gk', qd', [], hc, h1, by simp, by simp, ⟨h3.1, fun i d hi hS hd => h3.2 i d hi (hS.elim (fun h => by cases h) .inr) hd⟩, by simp⟩
 ·rintro i o dn g w hi ho hdn hdeps _ ⟨p, gk, qd, ed, hc, hnq, hd1, hd2, hagr, hdc⟩
  have hdepdn : ∀ j ∈ Yi o, dn j = true := by
   intro j hj
   obtain ⟨e, he, hbi, rfl⟩ := Qgw.1 hj
   exact hdeps e he hbi
  have hdepS : ∀ j ∈ Yi o, dn j = true ∨ isQ n0 ops j = false := fun j hj => .inl (hdepdn j hj)
  have hanc := QiP hT hdc hb i o ho hdepdn
  have hnoted : i ∉ ed := fun hm => by have := hd2 i hm; rw [hdn] at this; cases this
  have heff : ∀ j, isQ n0 ops j = false → dn j = true → j ∈ ed := by
   intro j hj hjd
   rcases (hd1 j hjd).2 with hm | hm
   ·have h5 := (hc.nq j hm).2.1
    rw [hj] at h5; cases h5
   ·exact hm
  have hdc' : ∀ k ok, (if k = i then true else dn k) = true → ops[k]? = some ok → ∀ j ∈ Yi ok, (if j = i then true else dn j) = true := by
   intro k ok hk hok j hj
   by_cases e : k = i
   ·subst e
    rw [ho] at hok; cases hok
    have := hdepdn j hj
    split <;> first | rfl | exact this
   ·rw [if_neg e] at hk
    have := hdc k ok hk hok j hj
    split <;> first | rfl | exact this
  have hnode := QfD p hnq hc.ok hc.dl
  have hstage : ∀ l, Qds n0 ops T l qd ed = true → i ∈ qd ∨ i ∈ l := by
   intro l hst
   simp only [Qds, List.all_eq_true, List.mem_range, Bool.or_eq_true, List.any_eq_true, Bool.and_eq_true] at hst
   rcases hst i hi with ((h | h) | h) | ⟨j, hj, ⟨he, _⟩, hn⟩
   ·exact .inl (by simpa using h)
   ·exact (hnoted (by simpa using h)).elim
   ·exact .inr (by simpa using h)
   ·have := heff j (by simpa using he) (hanc j hj)
    simp [this] at hn
  have hdoneq : Kk n0 ops T .done none qd ed = true → i ∈ qd := by
   intro hok
   simp only [Kk, Bool.and_eq_true, List.all_eq_true, List.mem_range, Bool.or_eq_true] at hok
   rcases hok.2 i hi with h | h
   ·simpa using h
   ·exact (hnoted (by simpa using h)).elim
  cases hq : isQ n0 ops i with
  | true =>
   have hiq : i ∈ qd := by
    rcases hnode with e | ⟨hst, _, hsp⟩
    ·subst e; exact hdoneq hc.ok
    ·rcases hstage _ hst with h | h
     ·exact h
     ·obtain ⟨ag, r, hok, _⟩ := hsp i h
      simp [Kk, ho, hq] at hok
   obtain ⟨_, _, o', ho', _, hopn, _⟩ := hc.nq i hiq
   rw [ho] at ho'; cases ho'
   have hag := hc.ag i hiq hdn o ho
   obtain ⟨d, hd⟩ := Qe9 hq ho
   rw [← QaW hopn hdepS hagr] at hag
   have key : ∀ v, v = gk (QaC ops i) → I (fun j => if j = i then true else dn j) (J9 g o.dst v) w := by
    rintro v rfl
    refine ⟨p, gk, qd, ed, ⟨hc.ok, hc.dl, hc.nq, hc.ne, fun j hj hdj => hc.ag j hj ?_⟩, hnq, ?_, ?_, ⟨?_, ?_⟩, hdc'⟩
    ·by_cases e : j = i
     ·simp only [if_pos e] at hdj; cases hdj
     ·simp only [if_neg e] at hdj; exact hdj
    ·intro j hj
     by_cases e : j = i
     ·rw [e]; exact ⟨hi, .inl hiq⟩
     ·simp only [if_neg e] at hj; exact hd1 j hj
    ·intro j hj
     by_cases e : j = i
     ·simp only [if_pos e]
     ·simp only [if_neg e]; exact hd2 j hj
    ·intro n hn
     have hne : n ≠ d := by rintro rfl; have := hn i hi; rw [Qdx ho hd] at this; cases this
     rw [hd]; simp only [J9, QcX _ _ hne]
     exact hagr.1 n hn
    ·intro j dj hj hjd hdj
     by_cases e : dj = d
     ·subst e
      rw [hd, Qfa ho hd]; simp only [J9, QeL]
     ·have hji : j ≠ i := by
       rintro rfl
       obtain ⟨oj, hoj, hdj'⟩ := Qc4 hdj
       rw [ho] at hoj; cases hoj; rw [hd] at hdj'; cases hdj'; exact e rfl
      have hjd' : dn j = true ∨ isQ n0 ops j = false := by simp only [if_neg hji] at hjd; exact hjd
      rw [hd]; simp only [J9, QcX _ _ e]
      exact hagr.2 j dj hj hjd' hdj
   split
   ·rename_i hw
    rw [if_pos hw] at hag
    refine (Qdk (Qdw hopn hdepS (fun _ _ _ hk _ _ => .inr hk) hagr).symm hag).mono ?_
    rintro v w' ⟨rfl, hv⟩
    exact key v hv
   ·rename_i hw
    rw [if_neg hw] at hag
    exact key undef hag.symm
  | false =>
   have hniq : i ∉ qd := fun hm => by have := (hc.nq i hm).2.1; rw [hq] at this; cases this
   obtain ⟨l, ag, r, hok, hdl⟩ : ∃ l ag r, Kk n0 ops T (.e i ag r) (some l) qd ed = true ∧ DL P ops K (.e i ag r) gk w := by
    rcases hnode with e | ⟨hst, _, hsp⟩
    ·subst e; exact (hniq (hdoneq hc.ok)).elim
    ·rcases hstage _ hst with h | h
     ·exact (hniq h).elim
     ·obtain ⟨ag, r, h1, h2⟩ := hsp i h; exact ⟨_, ag, r, h1, h2⟩
   simp only [Kk, Bool.and_eq_true] at hok
   obtain ⟨⟨⟨⟨_, hb'⟩, _⟩, hagq⟩, hrest⟩ := hok
   obtain ⟨o', ho', hdl⟩ := hdl
   rw [ho] at ho'; cases ho'
   simp only [ho, Bool.and_eq_true] at hb'
   obtain ⟨⟨⟨_, _⟩, hdep⟩, hopn⟩ := hb'
   rw [← QaW hopn hdepS hagr] at hdl
   have key : ∀ v w', (∀ j ∈ qd, (if j = i then true else dn j) = false → Jh P ops (J9 gk o.dst v) w' j) → DL P ops K r (J9 gk o.dst v) w' → I (fun j => if j = i then true else dn j) (J9 g o.dst v) w' := by
    intro v w' hag hdl
    have hc1 : Canon P n0 ops T K r (J9 gk o.dst v) w' qd (i :: ed) (fun j => if j = i then true else dn j) := by
     refine ⟨hrest, hdl, ?_, ?_, hag⟩
     ·intro j hj
      obtain ⟨hj0, hjq, oj, hoj, hqj, hopj, hdj⟩ := hc.nq j hj
      exact ⟨hj0, hjq, oj, hoj, hqj, hopj, fun k hk => (hdj k hk).imp (fun h => h) (List.mem_cons_of_mem _)⟩
     ·intro j hj
      rcases List.mem_cons.1 hj with e | hj
      ·rw [e]; exact ⟨hi, hq⟩
      ·exact hc.ne j hj
    obtain ⟨p', gk', qd', hc', h1, h2, h3⟩ := Qb1 hI r (J9 gk o.dst v) qd hc1
    refine ⟨p', gk', qd', i :: ed, hc', h1, ?_, ?_, ?_, hdc'⟩
    ·intro j hj
     by_cases e : j = i
     ·rw [e]; exact ⟨hi, .inr (by simp)⟩
     ·simp only [if_neg e] at hj
      exact ⟨(hd1 j hj).1, (hd1 j hj).2.imp (h2 j) (List.mem_cons_of_mem _)⟩
    ·intro j hj
     by_cases e : j = i
     ·simp only [if_pos e]
     ·simp only [if_neg e]
      exact hd2 j ((List.mem_cons.1 hj).resolve_left e)
    ·refine Agr.trans (S := fun j => (if j = i then true else dn j) = true ∨ isQ n0 ops j = false) (S' := fun j => (j ∈ qd ∨ j ∈ i :: ed) ∨ isQ n0 ops j = false) (g' := J9 gk o.dst v) (Qjy hI hi ho hagr fun j hj hne => by simp only [if_neg hne] at hj; exact hj) h3 ?_
     ·intro j hj
      by_cases e : j = i
      ·rw [e]; exact .inl (.inr (by simp))
      ·simp only [if_neg e] at hj
       exact hj.imp (fun h => (hd1 j h).2.imp (fun h => h) (List.mem_cons_of_mem _)) (fun h => h)
   split
   ·rename_i hw
    rw [if_pos hw] at hdl
    refine (Qdk (Qdw hopn hdepS (fun _ _ _ hk _ _ => .inr hk) hagr).symm hdl).mono ?_
    rintro v w' ⟨hagv, hdlv⟩
    refine key v w' ?_ hdlv
    intro j hj hjd
    have hjd' : dn j = false := by
     split at hjd
     ·cases hjd
     ·exact hjd
    have := List.all_eq_true.1 hagq j hj
    simp only [Bool.or_eq_true, List.any_eq_true] at this
    rcases this with (h | h) | ⟨k, hk, h⟩
    ·exact hagv j (by simpa using h)
    ·have := hanc j (by simpa using h); rw [hjd'] at this; cases this
    ·obtain ⟨hk0, _⟩ := hc.ne k hk
     obtain ⟨ok, hok⟩ := hI.1 k hk0
     have := QiP hT hdc hb k ok hok (hdc k ok (hd2 k hk) hok) j (by simpa using h)
     rw [hjd'] at this; cases this
   ·rename_i hw
    rw [if_neg hw] at hdl
    refine key undef w ?_ hdl
    intro j hj hjd
    have hjd' : dn j = false := by
     split at hjd
     ·cases hjd
     ·exact hjd
    obtain ⟨hj0, hjq, oj, hoj, hqj, hopj, hdj⟩ := hc.nq j hj
    have hne : ∀ k, k ∈ qd ∨ k ∈ ed → k ≠ i := by
     rintro k (h | h) rfl
     ·exact hniq h
     ·exact hnoted h
    refine QfH (S := fun k => ((k ∈ qd ∨ k ∈ ed) ∨ isQ n0 ops k = false) ∧ k ≠ i) hj0 hoj hopj (fun k hk => ⟨.inl (hdj k hk), hne k (hdj k hk)⟩) ?_ ⟨.inl (.inl hj), hne j (.inl hj)⟩ (Qe9 hjq hoj) (Qgc hI hi ho (fun hm => hm.2 Z)) (hc.ag j hj hjd')
    intro k ok _ hkq hok hjk
    refine ⟨.inr hkq, ?_⟩
    rintro rfl
    rw [ho] at hok; cases hok
    have := hdepdn j hjk
    rw [hjd'] at this; cases this
 ·rintro dn g w hall ⟨p, gk, qd, ed, hc, hnq, hd1, hd2, hagr, hdc⟩
  have hg : g = gk := by
   funext n
   by_cases hn : ∀ k, k < n0 → Qao ops k n = false
   ·exact hagr.1 n hn
   ·obtain ⟨k, hk, hd'⟩ : ∃ k, k < n0 ∧ Qao ops k n = true := by
     refine Classical.byContradiction fun hc => hn fun k hk => ?_
     cases hd : Qao ops k n with
     | false => rfl
     | true => exact absurd ⟨k, hk, hd⟩ hc
    exact hagr.2 k n hk (.inl (hall k hk)) hd'
  subst hg
  rcases QfD p hnq hc.ok hc.dl with e | ⟨_, hne, hsp⟩
  ·subst e; exact hc.dl
  ·obtain ⟨i', hi'⟩ := List.exists_mem_of_ne_nil _ hne
   obtain ⟨ag, r, hok, _⟩ := hsp i' hi'
   simp only [Kk, Bool.and_eq_true] at hok
   obtain ⟨⟨⟨⟨hi', hb'⟩, _⟩, _⟩, _⟩ := hok
   have hi'' : i' < n0 := by simpa [Nat.blt_eq] using hi'
   have hdn := hall i' hi''
   obtain ⟨o', ho'⟩ := hI.1 i' hi''
   simp only [ho', Bool.and_eq_true, Bool.not_eq_true'] at hb'
   rcases (hd1 i' hdn).2 with hm | hm
   ·have := (hc.nq i' hm).2.1
    rw [hb'.1.1.1] at this; cases this
   ·have := hb'.1.1.2
    simp [hm] at this
end
/-! ### as the printed walks show it -/
section
variable {P : Program} {ops : List Oper} {K : Fr → World → Prop} {f : Fr} {w : World} {i : Nat} {o : Oper} {r : DPlan}
theorem Qo (ho : ops[i]? = some o) (hg : o.guard = none) (h : Exec P (ev f) o w fun v w' => w' = w ∧ DL P ops K r (J9 f o.dst v) w) : DL P ops K (.q i r) f w :=
 ⟨o, ho, by rw [if_pos (by simp [Region.wanted, hg])]; exact h⟩
theorem Qla {j : Nat} {b : Bool} (ho : ops[i]? = some o) (hg : o.guard = some (j, b)) (hy : Jf ops.toArray f j = some b) (h : Exec P (ev f) o w fun v w' => w' = w ∧ DL P ops K r (J9 f o.dst v) w) : DL P ops K (.q i r) f w :=
 ⟨o, ho, by rw [if_pos (by simp [Region.wanted, hg, hy])]; exact h⟩
theorem QkY {j : Nat} {b c : Bool} (ho : ops[i]? = some o) (hg : o.guard = some (j, b)) (hy : Jf ops.toArray f j = some c) (hbc : (c == b) = false) (h : DL P ops K r (J9 f o.dst undef) w) : DL P ops K (.q i r) f w :=
 ⟨o, ho, by rw [if_neg (by cases b <;> cases c <;> simp [Region.wanted, hg, hy] at *)]; exact h⟩
theorem QkZ {j : Nat} {b : Bool} (ho : ops[i]? = some o) (hg : o.guard = some (j, b)) (hy : Jf ops.toArray f j = none) (h : DL P ops K r (J9 f o.dst undef) w) : DL P ops K (.q i r) f w :=
 ⟨o, ho, by rw [if_neg (by simp [Region.wanted, hg, hy])]; exact h⟩
variable {ag : List Nat}
theorem Qt (ho : ops[i]? = some o) (hg : o.guard = none) (h : Exec P (ev f) o w fun v w' => (∀ j ∈ ag, Jh P ops (J9 f o.dst v) w' j) ∧ DL P ops K r (J9 f o.dst v) w') : DL P ops K (.e i ag r) f w :=
 ⟨o, ho, by rw [if_pos (by simp [Region.wanted, hg])]; exact h⟩
theorem Qld {j : Nat} {b : Bool} (ho : ops[i]? = some o) (hg : o.guard = some (j, b)) (hy : Jf ops.toArray f j = some b) (h : Exec P (ev f) o w fun v w' => (∀ j ∈ ag, Jh P ops (J9 f o.dst v) w' j) ∧ DL P ops K r (J9 f o.dst v) w') : DL P ops K (.e i ag r) f w :=
 ⟨o, ho, by rw [if_pos (by simp [Region.wanted, hg, hy])]; exact h⟩
theorem Qlb {j : Nat} {b c : Bool} (ho : ops[i]? = some o) (hg : o.guard = some (j, b)) (hy : Jf ops.toArray f j = some c) (hbc : (c == b) = false) (h : DL P ops K r (J9 f o.dst undef) w) : DL P ops K (.e i ag r) f w :=
 ⟨o, ho, by rw [if_neg (by cases b <;> cases c <;> simp [Region.wanted, hg, hy] at *)]; exact h⟩
theorem Qlc {j : Nat} {b : Bool} (ho : ops[i]? = some o) (hg : o.guard = some (j, b)) (hy : Jf ops.toArray f j = none) (h : DL P ops K r (J9 f o.dst undef) w) : DL P ops K (.e i ag r) f w :=
 ⟨o, ho, by rw [if_neg (by simp [Region.wanted, hg, hy])]; exact h⟩
theorem Qi {p : Nat → Prop} : ∀ j ∈ ([] : List Nat), p j := by simp
theorem Qa {p : Nat → Prop} {j : Nat} {l : List Nat} (h : p j) (hl : ∀ k ∈ l, p k) : ∀ k ∈ j :: l, p k := by
 intro k hk; rcases List.mem_cons.1 hk with rfl | hk
 ·exact h
 ·exact hl k hk
theorem U (ho : ops[i]? = some o) (hg : o.guard = none) (h : Exec P (ev f) o w fun v w' => w' = w ∧ v = f (QaC ops i)) : Jh P ops f w i := by
 intro o' ho'; rw [ho] at ho'; cases ho'; rw [if_pos (by simp [Region.wanted, hg])]; exact h
theorem Qlu {j : Nat} {b : Bool} (ho : ops[i]? = some o) (hg : o.guard = some (j, b)) (hy : Jf ops.toArray f j = some b) (h : Exec P (ev f) o w fun v w' => w' = w ∧ v = f (QaC ops i)) : Jh P ops f w i := by
 intro o' ho'; rw [ho] at ho'; cases ho'; rw [if_pos (by simp [Region.wanted, hg, hy])]; exact h
theorem Qls {j : Nat} {b c : Bool} (ho : ops[i]? = some o) (hg : o.guard = some (j, b)) (hy : Jf ops.toArray f j = some c) (hbc : (c == b) = false) (h : f (QaC ops i) = undef) : Jh P ops f w i := by
 intro o' ho'; rw [ho] at ho'; cases ho'; rw [if_neg (by cases b <;> cases c <;> simp [Region.wanted, hg, hy] at *)]; exact h
theorem Qlt {j : Nat} {b : Bool} (ho : ops[i]? = some o) (hg : o.guard = some (j, b)) (hy : Jf ops.toArray f j = none) (h : f (QaC ops i) = undef) : Jh P ops f w i := by
 intro o' ho'; rw [ho] at ho'; cases ho'; rw [if_neg (by simp [Region.wanted, hg, hy])]; exact h
end
section
variable {P : Program} {ρ : Operand → Value} {o : Oper} {w w0 : World} {s : PHeap} {H : List Res} {K : Value → World → Prop} {T : TypeId}
theorem QH {ops : List Oper} {K : Fr → World → Prop} {f : Fr} {p q : DPlan} (h : DL P ops K p f w) (k : DL P ops K q f w) : DL P ops K (.alt p q) f w := ⟨h, k⟩
theorem Q5 {ops : List Oper} {K : Fr → World → Prop} {f : Fr} (h : K f w) : DL P ops K .done f w := h
theorem Q1 {α : Type} {E : Enc α} {xs : List α} {y : α} {x i : Operand} {v : Value} {k : IntKind} {n : Int} {e by_ : Nat} (hT : JT P T = some (e, E.sz, by_)) (ho : o.op = .indexAddr T x i) (hx : ρ x = v) (hi : ρ i = .int k n)
  (h : SliceRep E s v xs) (hy : Q9 xs n = some y) (hk : ∀ b off, At s b off E y → (∀ w' : World, (Instr.indexAt T v (.int k n)).run P w' = .ok (.pointer (some ⟨b, off, none⟩)) w') → K (.pointer (some ⟨b, off, none⟩)) w) : Exec P ρ o w K := by
 obtain ⟨h0, h1, _⟩ := Qr hy
 obtain ⟨b, off, c, rfl, hat⟩ := h.at hy
 exact Qn hT ho hx hi h0 h1 (hk _ _ hat fun w' => Qeh hT h0 h1)
theorem Qct {x i : Operand} {v u : Value} {k : IntKind} {n : Int} (ho : o.op = .indexAddr T x i) (hx : ρ x = v) (hi : ρ i = .int k n) (h : ∀ w' : World, (Instr.indexAt T v (.int k n)).run P w' = .ok u w') (hk : K u w) : Exec P ρ o w K := by
 refine .of_run (v := u) ?_ hk
 unfold execOp
 simp only [ho, hx, hi, Sem.run_bind, h, Result.andThen_ok, Sem.run_pure]
end
end Go.Pw
