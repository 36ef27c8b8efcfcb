/- -/
import Derived.Test.YtjbjflndiajoiaaGreatDoorLB
import Derived.Orders
import Derived.ChangeKeysEq
import Derived.ArgAppend
set_option linter.unusedSimpArgs false
set_option linter.unusedVariables false
namespace Go.Pw
inductive DPlan where
 | done
 | q (i : Nat) (r : DPlan)
 | e (i : Nat) (ag : List Nat) (r : DPlan)
 | alt (p q : DPlan)
def QcU (o : Oper) : Bool := match o.op with
 | .move _ | .assign _ | .pick _ _ _ | .build _ _ | .load _ _ | .nilCheck _ | .binOp _ _ _ _ _ | .unOp _ _ _ | .convert _ _ _ | .makeInterface _ _ | .slice _ _ _ _ _ | .fieldAddr _ _ _ | .field _ _ _
 | .indexAddr _ _ _ | .index _ _ _ | .typeAssert _ _ _ _ | .extract _ _ | .lookup _ _ _ _ => true
 | .call c => match c.callee with | .builtin .len | .builtin .cap | .builtin .min | .builtin .max => true | _ => false
 | _ => false
def Qne (o : Oper) : Bool := match o.op with | .select _ _ => false | _ => true
def QjX : Next → Prop | .value _ => True | _ => False
theorem QkN {s : Sem Value} {P : Program} {w w' : World} {n : Next} (h : (do pure (.value (← s)) : Sem Next).run P w = .ok n w') : QjX n := by
 rw [Sem.run_bind] at h
 cases hs : s.run P w with
 | ok a w1 => rw [hs] at h; simp only [Result.andThen_ok, Sem.run_pure, Result.ok.injEq] at h; rw [← h.1]; trivial
 | halt x w1 => rw [hs] at h; simp [Result.andThen] at h
def Qj6 (P : Program) (s : Sem Next) : Prop := ∀ w n w', s.run P w = .ok n w' → QjX n
theorem QfH {P : Program} {v : Value} : Qj6 P (pure (.value v)) := by
 intro w n w' h; simp only [Sem.run_pure, Result.ok.injEq] at h; rw [← h.1]; trivial
theorem Qfb {α : Type} {P : Program} {s : Sem α} {k : α → Sem Next} (hk : ∀ a, Qj6 P (k a)) : Qj6 P (s >>= k) := by
 intro w n w' h
 rw [Sem.run_bind] at h
 cases hs : s.run P w with
 | ok a w1 => rw [hs] at h; exact hk a w1 n w' h
 | halt x w1 => rw [hs] at h; simp [Result.andThen] at h
theorem QiK {P : Program} {ρ : Operand → Value} {o : Oper} {w w' : World} {n : Next} (hq : QcU o = true) (h : (execOp ρ o).run P w = .ok n w') : QjX n := by
 obtain ⟨dst, op, type, pos, after, guard⟩ := o
 cases op <;> simp only [QcU] at hq <;> first | (cases hq; done) | skip
 case move x => simp only [execOp, Sem.run_pure, Result.ok.injEq] at h; rw [← h.1]; trivial
 case assign x => simp only [execOp, Sem.run_pure, Result.ok.injEq] at h; rw [← h.1]; trivial
 case pick c a b =>
  simp only [execOp, Sem.run_bind] at h
  cases hs : (asBool (ρ c)).run P w with
  | ok a w1 => rw [hs] at h; simp only [Result.andThen_ok, Sem.run_pure, Result.ok.injEq] at h; rw [← h.1]; trivial
  | halt x w1 => rw [hs] at h; simp [Result.andThen] at h
 case nilCheck x =>
  simp only [execOp] at h
  split at h
  ·simp [runtimePanic, Sem.run] at h
   try (split at h <;> simp_all)
  ·simp [runtimePanic, Sem.run] at h
   try (split at h <;> simp_all)
  ·simp [runtimePanic, Sem.run] at h
   try (split at h <;> simp_all)
  ·split at h
   ·simp [runtimePanic, Sem.run] at h
    try (split at h <;> simp_all)
   ·exact Qfb (fun _ => Qfb (fun _ => by split <;> first | exact Qfb fun _ => QfH | exact QfH)) _ _ _ h
   ·simp only [Sem.run_pure, Result.ok.injEq] at h; rw [← h.1]; trivial
  ·simp only [Sem.run_pure, Result.ok.injEq] at h; rw [← h.1]; trivial
 case call c =>
  obtain ⟨callee, args, argTypes⟩ := c
  cases callee with
  | value f => cases hq
  | invoke r m => cases hq
  | builtin b =>
   cases b <;> first | (cases hq; done) | exact QkN (by simpa only [execOp, resolve, invoke, builtin, Sem.run_bind, Sem.run_pure, Result.andThen_ok] using h)
 all_goals exact QkN h
theorem Qlf {P : Program} {ρ : Operand → Value} {o : Oper} {w : World} {K : Value → World → Prop} (hq : QcU o = true) (h : Exec P ρ o w K) : ∃ v w', (execOp ρ o).run P w = .ok (.value v) w' ∧ K v w' := by
 unfold Exec at h
 cases hr : (execOp ρ o).run P w with
 | halt x w1 => rw [hr] at h; exact h.elim
 | ok n w1 =>
  have hv := QiK hq hr
  cases n <;> first | exact hv.elim | skip
  rw [hr] at h
  exact ⟨_, _, Z, h⟩
theorem QcF {P : Program} {ρ ρ' : Operand → Value} {o : Oper} {w : World} {K : Value → World → Prop} (he : execOp ρ o = execOp ρ' o) (h : Exec P ρ o w K) : Exec P ρ' o w K := by
 unfold Exec at *; rw [← he]; exact h
def Yq (o : Oper) : List Nat := (o.after.toList.filter (Region.binds .any)).map (·.on)
theorem Qf5 {o : Oper} {j : Nat} : j ∈ Yq o ↔ ∃ e ∈ o.after, Region.binds .any e = true ∧ e.on = j := by
 simp only [Yq, List.mem_map, List.mem_filter, Array.mem_toList_iff]
 constructor
 ·rintro ⟨e, ⟨h1, h2⟩, h3⟩; exact ⟨e, h1, h2, h3⟩
 ·rintro ⟨e, h1, h2, h3⟩; exact ⟨e, ⟨h1, h2⟩, h3⟩
def QX (P : Program) (ops : List Oper) (f : Fr) (w : World) (j : Nat) : Prop :=
 ∀ o, ops[j]? = some o → if Region.wanted o (Jg ops.toArray f) then Exec P (ev f) o w (fun v w' => w' = w ∧ v = f (QbT ops j)) else f (QbT ops j) = undef
def DL (P : Program) (ops : List Oper) (K : Fr → World → Prop) : DPlan → Fr → World → Prop
 | .done, f, w => K f w
 | .q i r, f, w => ∃ o, ops[i]? = some o ∧ (if Region.wanted o (Jg ops.toArray f) then Exec P (ev f) o w (fun v w' => w' = w ∧ DL P ops K r (J7 f o.dst v) w) else DL P ops K r (J7 f o.dst undef) w)
 | .e i ag r, f, w => ∃ o, ops[i]? = some o ∧ (if Region.wanted o (Jg ops.toArray f) then Exec P (ev f) o w (fun v w' => (∀ j ∈ ag, QX P ops (J7 f o.dst v) w' j) ∧ DL P ops K r (J7 f o.dst v) w') else DL P ops K r (J7 f o.dst undef) w)
 | .alt p q, f, w => DL P ops K p f w ∧ DL P ops K q f w
def QkX (ops : List Oper) : List (List Nat) := ops.foldl (fun T o => T ++ [((Yq o) ++ (Yq o).flatMap fun j => T.getD j []).eraseDups]) []
def QeR (T : List (List Nat)) (i : Nat) : List Nat := T.getD i []
def QlR (ops : List Oper) (T : List (List Nat)) : Bool := (List.range T.length).all fun i => match ops[i]? with
 | none => false
 | some o => (QeR T i).all fun j => (Yq o).contains j || (Yq o).any fun k => (QeR T k).contains j
def Qa6 (ops : List Oper) (k u : Nat) : Bool := match (ops[k]?).bind (·.dst) with | some d => Nat.beq d u | none => false
def Qqn (o : Oper) (u : Nat) : Bool := o.op.operands.toList.any fun x => match x with | .tmp t => Nat.beq t u | _ => false
def isQ (n0 : Nat) (ops : List Oper) (i : Nat) : Bool := match ops[i]? with
 | none => false
 | some o => QcU o && (match o.dst with
  | none => false
  | some d => (List.range n0).all fun k => match ops[k]? with | some o' => !(Qqn o' d) || (Yq o').contains i | none => true)
def Qnc (n0 : Nat) (ops : List Oper) (i : Nat) (o : Oper) (u : Nat) : Bool := ((List.range n0).all fun k => !Qa6 ops k u || (!isQ n0 ops k && (match ops[k]? with | some ok => (Yq ok).contains i | none => false))) || (Yq o).any fun k => Nat.blt k n0 && Qa6 ops k u
def QcV (n0 : Nat) (ops : List Oper) (i : Nat) (o : Oper) : Bool :=
 (o.op.operands.toList.all fun x => match x with | .tmp u => Qnc n0 ops i o u | _ => true) && (match o.guard with | some (j, _) => (Yq o).contains j && Nat.blt j n0 | none => true) && Qne o
def QdB (n0 : Nat) (ops : List Oper) (T : List (List Nat)) (nx : List Nat) (qd ed : List Nat) : Bool :=
 (List.range n0).all fun i => qd.contains i || ed.contains i || nx.contains i || (QeR T i).any fun j => !isQ n0 ops j && !qd.contains j && !ed.contains j
def KS : DPlan → List Nat
 | .e i _ _ => [i]
 | .alt p q => KS p ++ KS q
 | _ => []
def Kd (n0 : Nat) (ops : List Oper) (T : List (List Nat)) : DPlan → Option (List Nat) → List Nat → List Nat → Bool
 | .done, nx, qd, ed => nx.isNone && (List.range n0).all fun i => qd.contains i || ed.contains i
 | .q i r, nx, qd, ed => nx.isNone && Nat.blt i n0 && (match ops[i]? with
  | some o => isQ n0 ops i && QcU o && !qd.contains i && ((Yq o).all fun j => qd.contains j || ed.contains j) && QcV n0 ops i o
  | none => false) && Kd n0 ops T r none (i :: qd) ed
 | .e i ag r, nx, qd, ed => Nat.blt i n0 && (match ops[i]? with
  | some o => !isQ n0 ops i && !ed.contains i && ((Yq o).all fun j => qd.contains j || ed.contains j) && QcV n0 ops i o
  | none => false) && QdB n0 ops T (nx.getD [i]) qd ed && (qd.all fun j => ag.contains j || (QeR T i).contains j || ed.any fun k => (QeR T k).contains j) && Kd n0 ops T r none qd (i :: ed)
 | .alt p q, nx, qd, ed => Kd n0 ops T p (some (nx.getD (KS p ++ KS q))) qd ed && Kd n0 ops T q (some (nx.getD (KS p ++ KS q))) qd ed
def QmV (n0 : Nat) (ops : List Oper) (p : DPlan) : Bool := let T := QkX ops; QlR ops T && Nat.beq T.length ops.length && Kd n0 ops T p none [] []
def Agr (n0 : Nat) (ops : List Oper) (S : Nat → Prop) (g g' : Fr) : Prop := (∀ n, (∀ k, k < n0 → Qa6 ops k n = false) → g n = g' n) ∧ ∀ i d, i < n0 → S i → Qa6 ops i d = true → g d = g' d
theorem Qo5 {n0 : Nat} {ops : List Oper} {i : Nat} {o : Oper} {u : Nat} {S : Nat → Prop} {g g' : Fr} (h : Qnc n0 ops i o u = true) (hS : ∀ j ∈ Yq o, S j) (hA : ∀ k ok, k < n0 → isQ n0 ops k = false → ops[k]? = some ok → i ∈ Yq ok → S k) (ha : Agr n0 ops S g g') : g u = g' u := by
 simp only [Qnc, Bool.or_eq_true, List.all_eq_true, List.mem_range, Bool.not_eq_true', List.any_eq_true, Bool.and_eq_true] at h
 rcases h with h | ⟨k, hk, hk0, hd⟩
 ·by_cases hn : ∀ k, k < n0 → Qa6 ops k u = false
  ·exact ha.1 u hn
  ·obtain ⟨k, hk, hd⟩ : ∃ k, k < n0 ∧ Qa6 ops k u = true := by
    refine Classical.byContradiction fun hc => hn fun k hk => ?_
    cases hd : Qa6 ops k u with
    | false => rfl
    | true => exact absurd ⟨k, hk, hd⟩ hc
   rcases h k hk with h | ⟨h1, h2⟩
   ·rw [hd] at h; cases h
   ·cases hok : ops[k]? with
    | none => rw [hok] at h2; cases h2
    | some ok =>
     rw [hok] at h2
     exact ha.2 k u hk (hA k ok hk h1 hok (by simpa using h2)) hd
 ·exact ha.2 k u (by simpa [Nat.blt_eq] using hk0) (hS k hk) hd
theorem Qdt {n0 : Nat} {ops : List Oper} {i : Nat} {o : Oper} {S : Nat → Prop} {g g' : Fr} (h : QcV n0 ops i o = true) (hS : ∀ j ∈ Yq o, S j) (hA : ∀ k ok, k < n0 → isQ n0 ops k = false → ops[k]? = some ok → i ∈ Yq ok → S k) (ha : Agr n0 ops S g g') : execOp (ev g) o = execOp (ev g') o := by
 simp only [QcV, Bool.and_eq_true, List.all_eq_true] at h
 refine execOp_congr o ?_ ?_
 ·intro cs b he; have := h.2; simp [Qne, he] at this
 ·intro x hx
  have := h.1.1 x (by simpa using hx)
  cases x with
  | tmp u => exact Qo5 this hS hA ha
  | _ => rfl
theorem QaO {n0 : Nat} {ops : List Oper} {i : Nat} {o : Oper} {S : Nat → Prop} {g g' : Fr} (h : QcV n0 ops i o = true) (hS : ∀ j ∈ Yq o, S j) (ha : Agr n0 ops S g g')  :
  Region.wanted o (Jg ops.toArray g) = Region.wanted o (Jg ops.toArray g') := by
 simp only [QcV, Bool.and_eq_true] at h
 unfold Region.wanted
 cases hg : o.guard with
 | none => rfl
 | some gw =>
  obtain ⟨j, want⟩ := gw
  have h2 := h.1.2
  simp only [hg, Bool.and_eq_true] at h2
  have hj : j ∈ Yq o := by simpa using h2.1
  have hj0 : j < n0 := by simpa [Nat.blt_eq] using h2.2
  have : Jg ops.toArray g j = Jg ops.toArray g' j := by
   unfold Jg
   cases hd : (ops.toArray[j]?).bind (·.dst) with
   | none => rfl
   | some d =>
    have e1 : Qa6 ops j d = true := by
     unfold Qa6
     have : (ops[j]?).bind (·.dst) = some d := by simpa using hd
     rw [this]; simp
    have he := ha.2 j d hj0 (hS j hj) e1
    simp only [he]
  simp only [this]
def QmU : DPlan → Prop | .q _ _ => False | _ => True
structure Canon (P : Program) (n0 : Nat) (ops : List Oper) (T : List (List Nat)) (K : Fr → World → Prop) (p : DPlan) (gk : Fr) (w : World) (qd ed : List Nat) (dn : Nat → Bool) : Prop where
 ok : Kd n0 ops T p none qd ed = true
 dl : DL P ops K p gk w
 nq : ∀ i ∈ qd, i < n0 ∧ isQ n0 ops i = true ∧ ∃ o, ops[i]? = some o ∧ QcU o = true ∧ QcV n0 ops i o = true ∧ ∀ j ∈ Yq o, j ∈ qd ∨ j ∈ ed
 ne : ∀ i ∈ ed, i < n0 ∧ isQ n0 ops i = false
 ag : ∀ i ∈ qd, dn i = false → QX P ops gk w i
def QmX (n0 : Nat) (ops : List Oper) : Prop := (∀ i, i < n0 → ∃ o, ops[i]? = some o) ∧ ∀ (i j : Nat) (oi oj : Oper) (d : Nat), i < n0 → j < n0 → ops[i]? = some oi → ops[j]? = some oj → oi.dst = some d → oj.dst = some d → i = j
theorem Qf6 {ops : List Oper} {i d : Nat} {o : Oper} (ho : ops[i]? = some o) (hd : o.dst = some d) : QbT ops i = d := by simp [QbT, ho, hd]
theorem Qem {ops : List Oper} {i d : Nat} {o : Oper} (ho : ops[i]? = some o) (hd : o.dst = some d) : Qa6 ops i d = true := by simp [Qa6, ho, hd]
theorem Qd1 {ops : List Oper} {i d : Nat} (h : Qa6 ops i d = true) : ∃ o, ops[i]? = some o ∧ o.dst = some d := by
 unfold Qa6 at h
 cases ho : ops[i]? with
 | none => simp [ho] at h
 | some o =>
  cases hd : o.dst with
  | none => simp [ho, hd] at h
  | some d' => simp [ho, hd] at h; exact ⟨o, rfl, by rw [hd, h]⟩
theorem Qe5 {n0 : Nat} {ops : List Oper} {i : Nat} {o : Oper} (h : isQ n0 ops i = true) (ho : ops[i]? = some o) : ∃ d, o.dst = some d := by
 simp only [isQ, ho, Bool.and_eq_true] at h
 cases hd : o.dst with
 | none => simp [hd] at h
 | some d => exact ⟨d, rfl⟩
theorem QgZ {n0 : Nat} {ops : List Oper} {S : Nat → Prop} {g : Fr} {i : Nat} {o : Oper} {v : Value} (hI : QmX n0 ops) (hi : i < n0) (ho : ops[i]? = some o) (hS : ¬ S i) : Agr n0 ops S g (J7 g o.dst v) := by
 cases hd : o.dst with
 | none => exact ⟨fun _ _ => rfl, fun _ _ _ _ _ => rfl⟩
 | some d =>
  refine ⟨fun n hn => ?_, fun j dj hj hSj hdj' => ?_⟩
  ·have : n ≠ d := by rintro rfl; have := hn i hi; rw [Qem ho hd] at this; cases this
   simp only [J7, Qd7 _ _ this]
  ·obtain ⟨oj, hoj, hdj⟩ := Qd1 hdj'
   have : dj ≠ d := by rintro rfl; exact hS ((hI.2 i j o oj dj hi hj ho hoj hd hdj) ▸ hSj)
   simp only [J7, Qd7 _ _ this]
theorem Qkz {n0 : Nat} {ops : List Oper} {S S' : Nat → Prop} {g g' : Fr} {i : Nat} {o : Oper} {v : Value} (hI : QmX n0 ops) (hi : i < n0) (ho : ops[i]? = some o) (h : Agr n0 ops S g g') (hS : ∀ j, S' j → j ≠ i → S j) : Agr n0 ops S' (J7 g o.dst v) (J7 g' o.dst v) := by
 cases hd : o.dst with
 | none =>
  refine ⟨h.1, fun j dj hj hSj hdj => ?_⟩
  by_cases e : j = i
  ·subst e
   obtain ⟨oj, hoj, hdj'⟩ := Qd1 hdj
   rw [ho] at hoj; cases hoj; rw [hd] at hdj'; cases hdj'
  ·exact h.2 j dj hj (hS j hSj e) hdj
 | some d =>
  refine ⟨fun n hn => ?_, fun j dj hj hSj hdj => ?_⟩
  ·have : n ≠ d := by rintro rfl; have := hn i hi; rw [Qem ho hd] at this; cases this
   simp only [J7, Qd7 _ _ this]
   exact h.1 n hn
  ·by_cases e : dj = d
   ·subst e; simp only [J7, Qf1]
   ·simp only [J7, Qd7 _ _ e]
    refine h.2 j dj hj (hS j hSj ?_) hdj
    rintro rfl
    obtain ⟨oj, hoj, hdj'⟩ := Qd1 hdj
    rw [ho] at hoj; cases hoj; rw [hd] at hdj'; cases hdj'; exact e rfl
theorem Qgq {P : Program} {n0 : Nat} {ops : List Oper} {S : Nat → Prop} {g g' : Fr} {w : World} {j : Nat} {o : Oper} (hj : j < n0) (ho : ops[j]? = some o) (hk : QcV n0 ops j o = true) (hS : ∀ k ∈ Yq o, S k) (hA : ∀ k ok, k < n0 → isQ n0 ops k = false → ops[k]? = some ok → j ∈ Yq ok → S k) (hSj : S j) (hd : ∃ d, o.dst = some d) (ha : Agr n0 ops S g g') (h : QX P ops g w j) : QX P ops g' w j := by
 intro o' ho'
 rw [ho] at ho'
 cases ho'
 have h1 := h o ho
 obtain ⟨d, hd⟩ := hd
 have hval : g (QbT ops j) = g' (QbT ops j) := by rw [Qf6 ho hd]; exact ha.2 j d hj hSj (Qem ho hd)
 rw [QaO hk hS ha, hval] at h1
 split
 ·rename_i hw
  rw [if_pos hw] at h1
  exact QcF (Qdt hk hS hA ha) h1
 ·rename_i hw
  rw [if_neg hw] at h1
  exact h1
theorem Agr.trans {n0 : Nat} {ops : List Oper} {S S' : Nat → Prop} {g g' g'' : Fr} (h : Agr n0 ops S g g') (k : Agr n0 ops S' g' g'') (hs : ∀ i, S i → S' i) : Agr n0 ops S g g'' :=
 ⟨fun n hn => (h.1 n hn).trans (k.1 n hn), fun i d hi hS hd => (h.2 i d hi hS hd).trans (k.2 i d hi (hs i hS) hd)⟩
theorem QaA {P : Program} {n0 : Nat} {ops : List Oper} {T : List (List Nat)} {K : Fr → World → Prop} (hI : QmX n0 ops) {w : World} {ed : List Nat} {dn : Nat → Bool} : ∀ (p : DPlan) (gk : Fr) (qd : List Nat), Canon P n0 ops T K p gk w qd ed dn →
  ∃ p' gk' qd', Canon P n0 ops T K p' gk' w qd' ed dn ∧ QmU p' ∧ (∀ i ∈ qd, i ∈ qd') ∧ Agr n0 ops (fun i => (i ∈ qd ∨ i ∈ ed) ∨ isQ n0 ops i = false) gk gk'
 | .done, gk, qd, h => ⟨.done, gk, qd, h, trivial, fun _ h => h, fun _ _ => rfl, fun _ _ _ _ _ => rfl⟩
 | .alt p q, gk, qd, h => ⟨.alt p q, gk, qd, h, trivial, fun _ h => h, fun _ _ => rfl, fun _ _ _ _ _ => rfl⟩
 | .e i ag r, gk, qd, h => ⟨.e i ag r, gk, qd, h, trivial, fun _ h => h, fun _ _ => rfl, fun _ _ _ _ _ => rfl⟩
 | .q i r, gk, qd, h => by
  obtain ⟨o, ho, hdl⟩ := h.dl
  have hok := h.ok
  simp only [Kd, Bool.and_eq_true, ho] at hok
  obtain ⟨⟨⟨_, hi⟩, ⟨⟨⟨hiq, hq⟩, hnq⟩, hdep⟩, hopn⟩, hrest⟩ := hok
  have hi' : i < n0 := by simpa [Nat.blt_eq] using hi
  have hnq' : i ∉ qd := by simpa using hnq
  have hne : i ∉ ed := fun hm => by have := (h.ne i hm).2; rw [hiq] at this; cases this
  have hnS : ¬ ((i ∈ qd ∨ i ∈ ed) ∨ isQ n0 ops i = false) := by
   rintro ((h | h) | h)
   ·exact hnq' h
   ·exact hne h
   ·rw [hiq] at h; cases h
  have hdeps : ∀ j ∈ Yq o, j ∈ qd ∨ j ∈ ed := by
   intro j hj
   have := List.all_eq_true.1 hdep j hj
   simpa using this
  obtain ⟨d, hd⟩ := Qe5 hiq ho
  have key : ∀ v, (∀ g', g' = J7 gk o.dst v → QX P ops g' w i) → DL P ops K r (J7 gk o.dst v) w → ∃ p' gk' qd', Canon P n0 ops T K p' gk' w qd' ed dn ∧ QmU p' ∧ (∀ i ∈ qd, i ∈ qd') ∧ Agr n0 ops (fun i => (i ∈ qd ∨ i ∈ ed) ∨ isQ n0 ops i = false) gk gk' := by
   intro v hag hdl
   have hA : Agr n0 ops (fun i => (i ∈ qd ∨ i ∈ ed) ∨ isQ n0 ops i = false) gk (J7 gk o.dst v) := QgZ hI hi' ho hnS
   have hc1 : Canon P n0 ops T K r (J7 gk o.dst v) w (i :: qd) ed dn := by
    refine ⟨hrest, hdl, ?_, h.ne, ?_⟩
    ·intro j hj
     rcases List.mem_cons.1 hj with e | hj
     ·rw [e]; exact ⟨hi', hiq, o, ho, hq, hopn, fun k hk => (hdeps k hk).imp (List.mem_cons_of_mem _) (fun h => h)⟩
     ·obtain ⟨hj0, hjq, oj, hoj, hqj, hopj, hdj⟩ := h.nq j hj
      exact ⟨hj0, hjq, oj, hoj, hqj, hopj, fun k hk => (hdj k hk).imp (List.mem_cons_of_mem _) (fun h => h)⟩
    ·intro j hj hdn
     rcases List.mem_cons.1 hj with e | hj
     ·rw [e]; exact hag _ rfl
     ·obtain ⟨hj0, hjq, oj, hoj, hqj, hopj, hdj⟩ := h.nq j hj
      exact Qgq (S := fun i => (i ∈ qd ∨ i ∈ ed) ∨ isQ n0 ops i = false) hj0 hoj hopj (fun k hk => .inl (hdj k hk)) (fun _ _ _ hk _ _ => .inr hk) (.inl (.inl hj)) (Qe5 hjq hoj) hA (h.ag j hj hdn)
   obtain ⟨p', gk', qd', hc, h1, h2, h3⟩ := QaA hI r (J7 gk o.dst v) (i :: qd) hc1
   exact ⟨p', gk', qd', hc, h1, fun j hj => h2 j (List.mem_cons_of_mem _ hj), hA.trans h3 (fun j hj => hj.imp (fun h => h.imp (List.mem_cons_of_mem _) (fun h => h)) (fun h => h))⟩
  have hA : ∀ v, Agr n0 ops (fun i => (i ∈ qd ∨ i ∈ ed) ∨ isQ n0 ops i = false) gk (J7 gk o.dst v) := fun v => QgZ hI hi' ho hnS
  have hval : ∀ v, J7 gk o.dst v (QbT ops i) = v := fun v => by rw [Qf6 ho hd, hd]; simp only [J7, Qf1]
  have hd2 : ∀ j ∈ Yq o, (j ∈ qd ∨ j ∈ ed) ∨ isQ n0 ops j = false := fun j hj => .inl (hdeps j hj)
  split at hdl
  ·rename_i hw
   obtain ⟨v, w', hrun, rfl, hr⟩ := Qlf hq hdl
   refine key v ?_ hr
   rintro g' rfl o' ho'
   rw [ho] at ho'; cases ho'
   rw [← QaO hopn hd2 (hA v), if_pos hw]
   refine .of_run (v := v) ?_ ⟨Z, (hval v).symm⟩
   rw [← Qdt hopn hd2 (fun _ _ _ hk _ _ => .inr hk) (hA v)]
   exact hrun
  ·rename_i hw
   refine key undef ?_ hdl
   rintro g' rfl o' ho'
   rw [ho] at ho'; cases ho'
   rw [← QaO hopn hd2 (hA undef), if_neg hw]
   exact hval undef
theorem Qjo {ops : List Oper} {T : List (List Nat)} (hT : QlR ops T = true) {dn : Nat → Bool} (hdc : ∀ i o, dn i = true → ops[i]? = some o → ∀ j ∈ Yq o, dn j = true) (hb : ∀ (i : Nat) (o : Oper), ops[i]? = some o → ∀ j ∈ Yq o, j < i) :
  ∀ (i : Nat) (o : Oper), ops[i]? = some o → (∀ j ∈ Yq o, dn j = true) → ∀ j ∈ QeR T i, dn j = true := by
 intro i
 induction i using Nat.strongRecOn with
 | _ i ih =>
  intro o ho hd j hj
  have hlt : i < T.length := by
   rcases Nat.lt_or_ge i T.length with h | h
   ·exact h
   ·unfold QeR at hj; rw [List.getD_eq_getElem?_getD, List.getElem?_eq_none h] at hj; simp at hj
  have := List.all_eq_true.1 hT i (by simpa using hlt)
  simp only [ho, List.all_eq_true, Bool.or_eq_true, List.any_eq_true] at this
  rcases this j hj with h | ⟨k, hk, h⟩
  ·exact hd j (by simpa using h)
  ·have hdk := hd k hk
   have hki := hb i o ho k hk
   have hk' : ∃ ok, ops[k]? = some ok := by
    have hil := (List.getElem?_eq_some_iff.1 ho).1
    exact ⟨ops[k]'(by omega), by simp [show k < ops.length by omega]⟩
   obtain ⟨ok, hok⟩ := hk'
   exact ih k hki ok hok (hdc k ok hdk hok) j (by simpa using h)
section
variable {P : Program} {n0 : Nat} {ops : List Oper} {T : List (List Nat)} {K : Fr → World → Prop} {gk : Fr} {w : World} {qd ed : List Nat}
theorem QfB : ∀ (p : DPlan) (l : List Nat), Kd n0 ops T p (some l) qd ed = true → DL P ops K p gk w →
  QdB n0 ops T l qd ed = true ∧ KS p ≠ [] ∧ ∀ i ∈ KS p, ∃ ag r, Kd n0 ops T (.e i ag r) (some l) qd ed = true ∧ DL P ops K (.e i ag r) gk w
 | .done, l, h, _ => by simp [Kd] at h
 | .q i r, l, h, _ => by simp [Kd] at h
 | .e i ag r, l, h, hd => by
  refine ⟨?_, by simp [KS], ?_⟩
  ·simp only [Kd, Bool.and_eq_true, Option.getD_some] at h
   exact h.1.1.2
  ·intro j hj
   simp only [KS, List.mem_singleton] at hj
   subst hj
   exact ⟨ag, r, h, hd⟩
 | .alt p q, l, h, hd => by
  simp only [Kd, Bool.and_eq_true, Option.getD_some] at h
  obtain ⟨a1, a2, a3⟩ := QfB p l h.1 hd.1
  obtain ⟨b1, b2, b3⟩ := QfB q l h.2 hd.2
  refine ⟨a1, by simp [KS, a2], ?_⟩
  intro j hj
  simp only [KS, List.mem_append] at hj
  rcases hj with hj | hj
  ·exact a3 j hj
  ·exact b3 j hj
theorem Qe8 (p : DPlan) (hn : QmU p) (h : Kd n0 ops T p none qd ed = true) (hd : DL P ops K p gk w) :
  p = .done ∨ (QdB n0 ops T (KS p) qd ed = true ∧ KS p ≠ [] ∧ ∀ i ∈ KS p, ∃ ag r, Kd n0 ops T (.e i ag r) (some (KS p)) qd ed = true ∧ DL P ops K (.e i ag r) gk w) := by
 cases p with
 | done => exact .inl rfl
 | q => exact hn.elim
 | e i ag r =>
  refine .inr ?_
  exact QfB (.e i ag r) [i] (by simpa only [Kd, Option.getD_some, Option.getD_none] using h) hd
 | alt p q =>
  refine .inr ?_
  exact QfB (.alt p q) (KS p ++ KS q) (by simpa only [Kd, Option.getD_some, Option.getD_none] using h) hd
end
theorem QkU {α : Type} {f : α → Option Nat} : ∀ {l : List α} {i j : Nat} {a b : α} {d : Nat}, (l.filterMap f).Nodup → l[i]? = some a → l[j]? = some b → f a = some d → f b = some d → i = j
 | [], _, _, _, _, _, _, h, _, _, _ => by simp at h
 | x :: l, 0, 0, _, _, _, _, _, _, _, _ => rfl
 | x :: l, 0, j + 1, a, b, d, hn, ha, hb, hfa, hfb => by
  simp only [List.getElem?_cons_zero, Option.some.injEq] at ha
  subst ha
  rw [List.filterMap_cons_some hfa] at hn
  exact absurd (List.mem_filterMap.2 ⟨b, List.mem_of_getElem? (by simpa using hb), hfb⟩) (List.nodup_cons.1 hn).1
 | x :: l, i + 1, 0, a, b, d, hn, ha, hb, hfa, hfb => by
  simp only [List.getElem?_cons_zero, Option.some.injEq] at hb
  subst hb
  rw [List.filterMap_cons_some hfb] at hn
  exact absurd (List.mem_filterMap.2 ⟨a, List.mem_of_getElem? (by simpa using ha), hfa⟩) (List.nodup_cons.1 hn).1
 | x :: l, i + 1, j + 1, a, b, d, hn, ha, hb, hfa, hfb => by
  have hn' : (l.filterMap f).Nodup := by
   cases hx : f x with
   | none => rwa [List.filterMap_cons_none hx] at hn
   | some y => rw [List.filterMap_cons_some hx] at hn; exact (List.nodup_cons.1 hn).2
  have he : i = j := QkU hn' (by simpa using ha) (by simpa using hb) hfa hfb
  rw [he]
section
variable {P : Program} {N : Nat} {Q : QbR} {f : Fr} {w : World}
theorem JE {id n0 : Nat} {ops : List Oper} (p : DPlan) (hm : P.follows .mixedOrders = true) (hok : Qcu N n0 ops = true) (hp : QmV n0 ops p = true)
  (h : DL P ops (fun g w' => WL P N ops.toArray Q (ops.drop n0) g w') p f w.drew) : W P N (.region id ops.toArray true) Q f w := by
 have hok0 := hok
 simp only [Qcu, Bool.and_eq_true, decide_eq_true_eq, List.all_eq_true, Bool.or_eq_true] at hok
 obtain ⟨⟨⟨⟨⟨hn0, hwait⟩, hdst⟩, _⟩, hnodup⟩, hback⟩ := hok
 have hn0' : n0 ≤ ops.length := by simpa [Nat.ble_eq] using hn0
 have hI : QmX n0 ops := by
  refine ⟨fun i hi => ⟨ops[i]'(by omega), by simp [show i < ops.length by omega]⟩, fun i j oi oj d hi hj hoi hoj hdi hdj => ?_⟩
  exact QkU (f := fun o : Oper => o.dst) hnodup (by rw [List.getElem?_take, if_pos hi]; exact hoi) (by rw [List.getElem?_take, if_pos hj]; exact hoj) hdi hdj
 have hb : ∀ (i : Nat) (o : Oper), ops[i]? = some o → ∀ j ∈ Yq o, j < i := by
  intro i o ho j hj
  obtain ⟨e, he, hbi, rfl⟩ := Qf5.1 hj
  have hi : i < ops.length := (List.getElem?_eq_some_iff.1 ho).1
  have := hback i (by simpa using hi)
  simp only [ho] at this
  have := Array.all_eq_true'.1 this e he
  simpa [Nat.blt_eq, hbi] using this
 simp only [QmV, Bool.and_eq_true] at hp
 obtain ⟨⟨hT, _⟩, hpl⟩ := hp
 generalize QkX ops = T at hT hpl
 let K : Fr → World → Prop := fun g w' => WL P N ops.toArray Q (ops.drop n0) g w'
 let I : (Nat → Bool) → Fr → World → Prop := fun dn g w => ∃ p gk qd ed, Canon P n0 ops T K p gk w qd ed dn ∧ QmU p ∧ (∀ i, dn i = true → i < n0 ∧ (i ∈ qd ∨ i ∈ ed)) ∧ (∀ i ∈ ed, dn i = true) ∧ Agr n0 ops (fun i => dn i = true ∨ isQ n0 ops i = false) g gk ∧
  (∀ i o, dn i = true → ops[i]? = some o → ∀ j ∈ Yq o, dn j = true)
 refine Qpf hm hok0 I ?_ ?_ ?_
 ·obtain ⟨p', gk', qd', hc, h1, _, h3⟩ := QaA (P := P) (K := K) (T := T) hI (w := w.drew) (ed := []) (dn := fun _ => false) p f [] ⟨hpl, h, by simp, by simp, by simp⟩
  exact ⟨p', gk', qd', [], hc, h1, by simp, by simp, ⟨h3.1, fun i d hi hS hd => h3.2 i d hi (hS.elim (fun h => by cases h) .inr) hd⟩, by simp⟩
 ·rintro i o dn g w hi ho hdn hdeps _ ⟨p, gk, qd, ed, hc, hnq, hd1, hd2, hagr, hdc⟩
  have hdepdn : ∀ j ∈ Yq o, dn j = true := by
   intro j hj
   obtain ⟨e, he, hbi, rfl⟩ := Qf5.1 hj
   exact hdeps e he hbi
  have hdepS : ∀ j ∈ Yq o, dn j = true ∨ isQ n0 ops j = false := fun j hj => .inl (hdepdn j hj)
  have hanc := Qjo hT hdc hb i o ho hdepdn
  have hnoted : i ∉ ed := fun hm => by have := hd2 i hm; rw [hdn] at this; cases this
  have heff : ∀ j, isQ n0 ops j = false → dn j = true → j ∈ ed := by
   intro j hj hjd
   rcases (hd1 j hjd).2 with hm | hm
   ·have h5 := (hc.nq j hm).2.1
    rw [hj] at h5; cases h5
   ·exact hm
  have hdc' : ∀ k ok, (if k = i then true else dn k) = true → ops[k]? = some ok → ∀ j ∈ Yq ok, (if j = i then true else dn j) = true := by
   intro k ok hk hok j hj
   by_cases e : k = i
   ·subst e
    rw [ho] at hok; cases hok
    have := hdepdn j hj
    split <;> first | rfl | exact this
   ·rw [if_neg e] at hk
    have := hdc k ok hk hok j hj
    split <;> first | rfl | exact this
  have hnode := Qe8 p hnq hc.ok hc.dl
  have hstage : ∀ l, QdB n0 ops T l qd ed = true → i ∈ qd ∨ i ∈ l := by
   intro l hst
   simp only [QdB, List.all_eq_true, List.mem_range, Bool.or_eq_true, List.any_eq_true, Bool.and_eq_true] at hst
   rcases hst i hi with ((h | h) | h) | ⟨j, hj, ⟨he, _⟩, hn⟩
   ·exact .inl (by simpa using h)
   ·exact (hnoted (by simpa using h)).elim
   ·exact .inr (by simpa using h)
   ·have := heff j (by simpa using he) (hanc j hj)
    simp [this] at hn
  have hdoneq : Kd n0 ops T .done none qd ed = true → i ∈ qd := by
   intro hok
   simp only [Kd, Bool.and_eq_true, List.all_eq_true, List.mem_range, Bool.or_eq_true] at hok
   rcases hok.2 i hi with h | h
   ·simpa using h
   ·exact (hnoted (by simpa using h)).elim
  cases hq : isQ n0 ops i with
  | true =>
   have hiq : i ∈ qd := by
    rcases hnode with e | ⟨hst, _, hsp⟩
    ·subst e; exact hdoneq hc.ok
    ·rcases hstage _ hst with h | h
     ·exact h
     ·obtain ⟨ag, r, hok, _⟩ := hsp i h
      simp [Kd, ho, hq] at hok
   obtain ⟨_, _, o', ho', _, hopn, _⟩ := hc.nq i hiq
   rw [ho] at ho'; cases ho'
   have hag := hc.ag i hiq hdn o ho
   obtain ⟨d, hd⟩ := Qe5 hq ho
   rw [← QaO hopn hdepS hagr] at hag
   have key : ∀ v, v = gk (QbT ops i) → I (fun j => if j = i then true else dn j) (J7 g o.dst v) w := by
    rintro v rfl
    refine ⟨p, gk, qd, ed, ⟨hc.ok, hc.dl, hc.nq, hc.ne, fun j hj hdj => hc.ag j hj ?_⟩, hnq, ?_, ?_, ⟨?_, ?_⟩, hdc'⟩
    ·by_cases e : j = i
     ·simp only [if_pos e] at hdj; cases hdj
     ·simp only [if_neg e] at hdj; exact hdj
    ·intro j hj
     by_cases e : j = i
     ·rw [e]; exact ⟨hi, .inl hiq⟩
     ·simp only [if_neg e] at hj; exact hd1 j hj
    ·intro j hj
     by_cases e : j = i
     ·simp only [if_pos e]
     ·simp only [if_neg e]; exact hd2 j hj
    ·intro n hn
     have hne : n ≠ d := by rintro rfl; have := hn i hi; rw [Qem ho hd] at this; cases this
     rw [hd]; simp only [J7, Qd7 _ _ hne]
     exact hagr.1 n hn
    ·intro j dj hj hjd hdj
     by_cases e : dj = d
     ·subst e
      rw [hd, Qf6 ho hd]; simp only [J7, Qf1]
     ·have hji : j ≠ i := by
       rintro rfl
       obtain ⟨oj, hoj, hdj'⟩ := Qd1 hdj
       rw [ho] at hoj; cases hoj; rw [hd] at hdj'; cases hdj'; exact e rfl
      have hjd' : dn j = true ∨ isQ n0 ops j = false := by simp only [if_neg hji] at hjd; exact hjd
      rw [hd]; simp only [J7, Qd7 _ _ e]
      exact hagr.2 j dj hj hjd' hdj
   split
   ·rename_i hw
    rw [if_pos hw] at hag
    refine (QcF (Qdt hopn hdepS (fun _ _ _ hk _ _ => .inr hk) hagr).symm hag).mono ?_
    rintro v w' ⟨rfl, hv⟩
    exact key v hv
   ·rename_i hw
    rw [if_neg hw] at hag
    exact key undef hag.symm
  | false =>
   have hniq : i ∉ qd := fun hm => by have := (hc.nq i hm).2.1; rw [hq] at this; cases this
   obtain ⟨l, ag, r, hok, hdl⟩ : ∃ l ag r, Kd n0 ops T (.e i ag r) (some l) qd ed = true ∧ DL P ops K (.e i ag r) gk w := by
    rcases hnode with e | ⟨hst, _, hsp⟩
    ·subst e; exact (hniq (hdoneq hc.ok)).elim
    ·rcases hstage _ hst with h | h
     ·exact (hniq h).elim
     ·obtain ⟨ag, r, h1, h2⟩ := hsp i h; exact ⟨_, ag, r, h1, h2⟩
   simp only [Kd, Bool.and_eq_true] at hok
   obtain ⟨⟨⟨⟨_, hb'⟩, _⟩, hagq⟩, hrest⟩ := hok
   obtain ⟨o', ho', hdl⟩ := hdl
   rw [ho] at ho'; cases ho'
   simp only [ho, Bool.and_eq_true] at hb'
   obtain ⟨⟨⟨_, _⟩, hdep⟩, hopn⟩ := hb'
   rw [← QaO hopn hdepS hagr] at hdl
   have key : ∀ v w', (∀ j ∈ qd, (if j = i then true else dn j) = false → QX P ops (J7 gk o.dst v) w' j) → DL P ops K r (J7 gk o.dst v) w' → I (fun j => if j = i then true else dn j) (J7 g o.dst v) w' := by
    intro v w' hag hdl
    have hc1 : Canon P n0 ops T K r (J7 gk o.dst v) w' qd (i :: ed) (fun j => if j = i then true else dn j) := by
     refine ⟨hrest, hdl, ?_, ?_, hag⟩
     ·intro j hj
      obtain ⟨hj0, hjq, oj, hoj, hqj, hopj, hdj⟩ := hc.nq j hj
      exact ⟨hj0, hjq, oj, hoj, hqj, hopj, fun k hk => (hdj k hk).imp (fun h => h) (List.mem_cons_of_mem _)⟩
     ·intro j hj
      rcases List.mem_cons.1 hj with e | hj
      ·rw [e]; exact ⟨hi, hq⟩
      ·exact hc.ne j hj
    obtain ⟨p', gk', qd', hc', h1, h2, h3⟩ := QaA hI r (J7 gk o.dst v) qd hc1
    refine ⟨p', gk', qd', i :: ed, hc', h1, ?_, ?_, ?_, hdc'⟩
    ·intro j hj
     by_cases e : j = i
     ·rw [e]; exact ⟨hi, .inr (by simp)⟩
     ·simp only [if_neg e] at hj
      exact ⟨(hd1 j hj).1, (hd1 j hj).2.imp (h2 j) (List.mem_cons_of_mem _)⟩
    ·intro j hj
     by_cases e : j = i
     ·simp only [if_pos e]
     ·simp only [if_neg e]
      exact hd2 j ((List.mem_cons.1 hj).resolve_left e)
    ·refine Agr.trans (S := fun j => (if j = i then true else dn j) = true ∨ isQ n0 ops j = false) (S' := fun j => (j ∈ qd ∨ j ∈ i :: ed) ∨ isQ n0 ops j = false) (g' := J7 gk o.dst v) (Qkz hI hi ho hagr fun j hj hne => by simp only [if_neg hne] at hj; exact hj) h3 ?_
     ·intro j hj
      by_cases e : j = i
      ·rw [e]; exact .inl (.inr (by simp))
      ·simp only [if_neg e] at hj
       exact hj.imp (fun h => (hd1 j h).2.imp (fun h => h) (List.mem_cons_of_mem _)) (fun h => h)
   split
   ·rename_i hw
    rw [if_pos hw] at hdl
    refine (QcF (Qdt hopn hdepS (fun _ _ _ hk _ _ => .inr hk) hagr).symm hdl).mono ?_
    rintro v w' ⟨hagv, hdlv⟩
    refine key v w' ?_ hdlv
    intro j hj hjd
    have hjd' : dn j = false := by
     split at hjd
     ·cases hjd
     ·exact hjd
    have := List.all_eq_true.1 hagq j hj
    simp only [Bool.or_eq_true, List.any_eq_true] at this
    rcases this with (h | h) | ⟨k, hk, h⟩
    ·exact hagv j (by simpa using h)
    ·have := hanc j (by simpa using h); rw [hjd'] at this; cases this
    ·obtain ⟨hk0, _⟩ := hc.ne k hk
     obtain ⟨ok, hok⟩ := hI.1 k hk0
     have := Qjo hT hdc hb k ok hok (hdc k ok (hd2 k hk) hok) j (by simpa using h)
     rw [hjd'] at this; cases this
   ·rename_i hw
    rw [if_neg hw] at hdl
    refine key undef w ?_ hdl
    intro j hj hjd
    have hjd' : dn j = false := by
     split at hjd
     ·cases hjd
     ·exact hjd
    obtain ⟨hj0, hjq, oj, hoj, hqj, hopj, hdj⟩ := hc.nq j hj
    have hne : ∀ k, k ∈ qd ∨ k ∈ ed → k ≠ i := by
     rintro k (h | h) rfl
     ·exact hniq h
     ·exact hnoted h
    refine Qgq (S := fun k => ((k ∈ qd ∨ k ∈ ed) ∨ isQ n0 ops k = false) ∧ k ≠ i) hj0 hoj hopj (fun k hk => ⟨.inl (hdj k hk), hne k (hdj k hk)⟩) ?_ ⟨.inl (.inl hj), hne j (.inl hj)⟩ (Qe5 hjq hoj) (QgZ hI hi ho (fun hm => hm.2 Z)) (hc.ag j hj hjd')
    intro k ok _ hkq hok hjk
    refine ⟨.inr hkq, ?_⟩
    rintro rfl
    rw [ho] at hok; cases hok
    have := hdepdn j hjk
    rw [hjd'] at this; cases this
 ·rintro dn g w hall ⟨p, gk, qd, ed, hc, hnq, hd1, hd2, hagr, hdc⟩
  have hg : g = gk := by
   funext n
   by_cases hn : ∀ k, k < n0 → Qa6 ops k n = false
   ·exact hagr.1 n hn
   ·obtain ⟨k, hk, hd'⟩ : ∃ k, k < n0 ∧ Qa6 ops k n = true := by
     refine Classical.byContradiction fun hc => hn fun k hk => ?_
     cases hd : Qa6 ops k n with
     | false => rfl
     | true => exact absurd ⟨k, hk, hd⟩ hc
    exact hagr.2 k n hk (.inl (hall k hk)) hd'
  subst hg
  rcases Qe8 p hnq hc.ok hc.dl with e | ⟨_, hne, hsp⟩
  ·subst e; exact hc.dl
  ·obtain ⟨i', hi'⟩ := List.exists_mem_of_ne_nil _ hne
   obtain ⟨ag, r, hok, _⟩ := hsp i' hi'
   simp only [Kd, Bool.and_eq_true] at hok
   obtain ⟨⟨⟨⟨hi', hb'⟩, _⟩, _⟩, _⟩ := hok
   have hi'' : i' < n0 := by simpa [Nat.blt_eq] using hi'
   have hdn := hall i' hi''
   obtain ⟨o', ho'⟩ := hI.1 i' hi''
   simp only [ho', Bool.and_eq_true, Bool.not_eq_true'] at hb'
   rcases (hd1 i' hdn).2 with hm | hm
   ·have := (hc.nq i' hm).2.1
    rw [hb'.1.1.1] at this; cases this
   ·have := hb'.1.1.2
    simp [hm] at this
end
/-! ### as the printed walks show it -/
section
variable {P : Program} {ops : List Oper} {K : Fr → World → Prop} {f : Fr} {w : World} {i : Nat} {o : Oper} {r : DPlan}
theorem Qaq (ho : ops[i]? = some o) (hg : o.guard = none) (h : Exec P (ev f) o w fun v w' => w' = w ∧ DL P ops K r (J7 f o.dst v) w) : DL P ops K (.q i r) f w :=
 ⟨o, ho, by rw [if_pos (by simp [Region.wanted, hg])]; exact h⟩
theorem Qq0 {j : Nat} {b : Bool} (ho : ops[i]? = some o) (hg : o.guard = some (j, b)) (hy : Jg ops.toArray f j = some b) (h : Exec P (ev f) o w fun v w' => w' = w ∧ DL P ops K r (J7 f o.dst v) w) : DL P ops K (.q i r) f w :=
 ⟨o, ho, by rw [if_pos (by simp [Region.wanted, hg, hy])]; exact h⟩
theorem Qqy {j : Nat} {b c : Bool} (ho : ops[i]? = some o) (hg : o.guard = some (j, b)) (hy : Jg ops.toArray f j = some c) (hbc : (c == b) = false) (h : DL P ops K r (J7 f o.dst undef) w) : DL P ops K (.q i r) f w :=
 ⟨o, ho, by rw [if_neg (by cases b <;> cases c <;> simp [Region.wanted, hg, hy] at *)]; exact h⟩
theorem Qqz {j : Nat} {b : Bool} (ho : ops[i]? = some o) (hg : o.guard = some (j, b)) (hy : Jg ops.toArray f j = none) (h : DL P ops K r (J7 f o.dst undef) w) : DL P ops K (.q i r) f w :=
 ⟨o, ho, by rw [if_neg (by simp [Region.wanted, hg, hy])]; exact h⟩
variable {ag : List Nat}
theorem Qmb (ho : ops[i]? = some o) (hg : o.guard = none) (h : Exec P (ev f) o w fun v w' => (∀ j ∈ ag, QX P ops (J7 f o.dst v) w' j) ∧ DL P ops K r (J7 f o.dst v) w') : DL P ops K (.e i ag r) f w :=
 ⟨o, ho, by rw [if_pos (by simp [Region.wanted, hg])]; exact h⟩
theorem Qq3 {j : Nat} {b : Bool} (ho : ops[i]? = some o) (hg : o.guard = some (j, b)) (hy : Jg ops.toArray f j = some b) (h : Exec P (ev f) o w fun v w' => (∀ j ∈ ag, QX P ops (J7 f o.dst v) w' j) ∧ DL P ops K r (J7 f o.dst v) w') : DL P ops K (.e i ag r) f w :=
 ⟨o, ho, by rw [if_pos (by simp [Region.wanted, hg, hy])]; exact h⟩
theorem Qq1 {j : Nat} {b c : Bool} (ho : ops[i]? = some o) (hg : o.guard = some (j, b)) (hy : Jg ops.toArray f j = some c) (hbc : (c == b) = false) (h : DL P ops K r (J7 f o.dst undef) w) : DL P ops K (.e i ag r) f w :=
 ⟨o, ho, by rw [if_neg (by cases b <;> cases c <;> simp [Region.wanted, hg, hy] at *)]; exact h⟩
theorem Qq2 {j : Nat} {b : Bool} (ho : ops[i]? = some o) (hg : o.guard = some (j, b)) (hy : Jg ops.toArray f j = none) (h : DL P ops K r (J7 f o.dst undef) w) : DL P ops K (.e i ag r) f w :=
 ⟨o, ho, by rw [if_neg (by simp [Region.wanted, hg, hy])]; exact h⟩
theorem J5 {p : Nat → Prop} : ∀ j ∈ ([] : List Nat), p j := by simp
theorem Qh {p : Nat → Prop} {j : Nat} {l : List Nat} (h : p j) (hl : ∀ k ∈ l, p k) : ∀ k ∈ j :: l, p k := by
 intro k hk; rcases List.mem_cons.1 hk with rfl | hk
 ·exact h
 ·exact hl k hk
theorem Q1 (ho : ops[i]? = some o) (hg : o.guard = none) (h : Exec P (ev f) o w fun v w' => w' = w ∧ v = f (QbT ops i)) : QX P ops f w i := by
 intro o' ho'; rw [ho] at ho'; cases ho'; rw [if_pos (by simp [Region.wanted, hg])]; exact h
theorem QqN {j : Nat} {b : Bool} (ho : ops[i]? = some o) (hg : o.guard = some (j, b)) (hy : Jg ops.toArray f j = some b) (h : Exec P (ev f) o w fun v w' => w' = w ∧ v = f (QbT ops i)) : QX P ops f w i := by
 intro o' ho'; rw [ho] at ho'; cases ho'; rw [if_pos (by simp [Region.wanted, hg, hy])]; exact h
theorem QqL {j : Nat} {b c : Bool} (ho : ops[i]? = some o) (hg : o.guard = some (j, b)) (hy : Jg ops.toArray f j = some c) (hbc : (c == b) = false) (h : f (QbT ops i) = undef) : QX P ops f w i := by
 intro o' ho'; rw [ho] at ho'; cases ho'; rw [if_neg (by cases b <;> cases c <;> simp [Region.wanted, hg, hy] at *)]; exact h
theorem QqM {j : Nat} {b : Bool} (ho : ops[i]? = some o) (hg : o.guard = some (j, b)) (hy : Jg ops.toArray f j = none) (h : f (QbT ops i) = undef) : QX P ops f w i := by
 intro o' ho'; rw [ho] at ho'; cases ho'; rw [if_neg (by simp [Region.wanted, hg, hy])]; exact h
end
section
variable {P : Program} {ρ : Operand → Value} {o : Oper} {w w0 : World} {s : PHeap} {H : List Res} {K : Value → World → Prop} {T : TypeId}
theorem Qgf {ops : List Oper} {K : Fr → World → Prop} {f : Fr} {p q : DPlan} (h : DL P ops K p f w) (k : DL P ops K q f w) : DL P ops K (.alt p q) f w := ⟨h, k⟩
theorem Qha {ops : List Oper} {K : Fr → World → Prop} {f : Fr} (h : K f w) : DL P ops K .done f w := h
theorem Qy {α : Type} {E : Enc α} {xs : List α} {y : α} {x i : Operand} {v : Value} {k : IntKind} {n : Int} {e by_ : Nat} (hT : QZ P T = some (e, E.sz, by_)) (ho : o.op = .indexAddr T x i) (hx : ρ x = v) (hi : ρ i = .int k n)
  (h : SliceRep E s v xs) (hy : Q9 xs n = some y) (hk : ∀ b off, At s b off E y → (∀ w' : World, (Instr.indexAt T v (.int k n)).run P w' = .ok (.pointer (some ⟨b, off, none⟩)) w') → K (.pointer (some ⟨b, off, none⟩)) w) : Exec P ρ o w K := by
 obtain ⟨h0, h1, _⟩ := Qb hy
 obtain ⟨b, off, c, rfl, hat⟩ := h.at hy
 exact Qa hT ho hx hi h0 h1 (hk _ _ hat fun w' => Qg7 hT h0 h1)
theorem Qin {x i : Operand} {v u : Value} {k : IntKind} {n : Int} (ho : o.op = .indexAddr T x i) (hx : ρ x = v) (hi : ρ i = .int k n) (h : ∀ w' : World, (Instr.indexAt T v (.int k n)).run P w' = .ok u w') (hk : K u w) : Exec P ρ o w K := by
 refine .of_run (v := u) ?_ hk
 unfold execOp
 simp only [ho, hx, hi, Sem.run_bind, h, Result.andThen_ok, Sem.run_pure]
end
end Go.Pw
/- -/
namespace Go.Pw
def qs : Nat → Nat → DPlan → DPlan
 | _, 0, r => r
 | i, n + 1, r => .q i (qs (i + 1) n r)
end Go.Pw
/- -/
namespace Go.Pw
def RR.own0 (L0 : List Res) : RR := ⟨true, fun _ _ L => L = L0, fun _ h => h, fun h => by cases h⟩
section
variable {P : Program} {N : Nat} {Q : QbR} {f : Fr} {w w0 : World} {s : PHeap} {H Hs : List Res}
end
end Go.Pw
/- -/
namespace Go.Pw
section
variable {P : Program} {ρ : Operand → Value} {o : Oper} {w w0 : World} {K : Value → World → Prop} {T : TypeId} {s : PHeap} {H : List Res}
theorem SliceRep.cut {α : Type} {E : Enc α} {a : Option Addr} {n cap : Nat} {xs : List α} (h : SliceRep E s (.slice a n cap) xs) {l r : Nat} (hl : l ≤ r) (hr : r ≤ xs.length) :
  SliceRep E s (.slice (if cap = l then a else a.map (·.add (l * E.sz))) (r - l) (cap - l)) ((xs.take r).drop l) := by
 rcases h with ⟨hv, rfl⟩ | ⟨a', cap', hv, rfl⟩ | ⟨b, off, cap', c, Te, fz, cells, hv, h1, h2, h3, h4, h5⟩
 ·cases hv
  have : l = 0 := by simp at hr; omega
  subst this
  have : r = 0 := by simpa using hr
  subst this
  exact .inl ⟨by simp, by simp⟩
 ·cases hv
  have : r = 0 := by simpa using hr
  subst this
  have : l = 0 := by omega
  subst this
  refine .inr (.inl ?_)
  by_cases hc : cap = 0
  ·exact ⟨a', _, by rw [if_pos hc, Nat.sub_self], by simp⟩
  ·exact ⟨a'.add (0 * E.sz), _, by rw [if_neg hc]; rfl, by simp⟩
 ·cases hv
  have hlen : ((xs.take r).drop l).length = r - l := by simp; omega
  by_cases hrl : r = l
  ·subst hrl
   have e : (xs.take r).drop r = [] := List.eq_nil_of_length_eq_zero (by rw [hlen]; omega)
   rw [e, Nat.sub_self]
   refine .inr (.inl ?_)
   by_cases hc : cap = r
   ·exact ⟨_, _, by rw [if_pos hc], Z⟩
   ·exact ⟨_, _, by rw [if_neg hc]; rfl, Z⟩
  ·have hcap : ¬ cap = l := by omega
   rw [if_neg hcap]
   refine .inr (.inr ⟨b, off + l * E.sz, cap - l, c, Te, fz, ((cells.take (r * E.sz)).drop (l * E.sz)), ?_, by omega, by omega, h3, ?_, ?_⟩)
   ·rw [hlen]; simp [Addr.add_lit]
   ·have hcl := h5.len
    have hle : r * E.sz ≤ cells.length := by rw [hcl]; exact Nat.mul_le_mul_right _ hr
    have hle2 : l * E.sz ≤ r * E.sz := Nat.mul_le_mul_right _ hl
    have : ((cells.take (r * E.sz)).drop (l * E.sz)).length = r * E.sz - l * E.sz := by simp; omega
    rw [this]
    conv => rhs; rw [← h4]
    rw [List.take_take, Nat.min_eq_left hle, List.drop_take, List.drop_drop]
   ·exact (h5.take r).drop l
theorem Yv {k : IntKind} {i : Int} {y : Nat} {c : BoundsCode} (h0 : 0 ≤ i) (h1 : i ≤ (y : Int)) : (Instr.sliceBound (.int k i) y c).run P w = .ok i.toNat w := by
 unfold Instr.sliceBound
 simp only [asIntOf, Sem.run_bind, Sem.run_pure, Result.andThen_ok]
 rw [if_pos ⟨h0, h1⟩]
 rfl
theorem Qi8 {α : Type} {E : Enc α} {xs ys : List α} {x hi : Operand} {v : Value} {k : IntKind} {r : Int} {e by_ : Nat} (hT : QZ P T = some (e, E.sz, by_)) (ho : o.op = .slice T x none (some hi) none) (hx : ρ x = v) (hh : ρ hi = .int k r)
  (h : SliceRep E s v xs) (hy : Go.Pw.cut xs 0 r = some ys) (hk : ∀ u, SliceRep E s u ys → K u w) : Exec P ρ o w K := by
 obtain ⟨_, h0, h1, rfl⟩ := Qkw hy
 obtain ⟨i, hu, hi', hs, _⟩ := QL hT
 obtain ⟨a, c, rfl⟩ := h.shape
 have hcap : xs.length ≤ c := by
  rcases h with ⟨hv, rfl⟩ | ⟨a', cap', hv, rfl⟩ | ⟨b, off, cap', c', Te, fz, cells, hv, h1, _⟩
  ·simp
  ·simp
  ·cases hv; exact h1
 have hc := h.cut (l := 0) (r := r.toNat) (Nat.zero_le _) (by omega)
 refine .of_run (v := .slice (if c = 0 then a else a.map (·.add (0 * E.sz))) (r.toNat - 0) (c - 0)) ?_ (hk _ (by simpa using hc))
 unfold execOp
 simp only [ho, hx, hh, Option.map_none, Option.map_some, Instr.sliceAt, Instr.slice, Instr.sliceBounds, Sem.run_bind, run_underlying hu, Result.andThen_ok, Sem.run_pure, Yv (P := P) (w := w) (k := k) h0 (show r ≤ (c : Int) by omega)]
 simp [sizeOf, typeInfo, hi', hs]
end
end Go.Pw
/- -/
namespace Go.Pw
def eqs : List Int → List Int → Bool
 | x :: xs, y :: ys => decide (x = y) && eqs xs ys
 | _, _ => true
def Ql4 (P : Program) : Nat → List Field → Bool
 | _, [] => true
 | i, f :: fs => (f.name != "_") && Nat.beq f.offset i && P.plainKey f.type && (match P.underlying f.type with | some (.int .i64) => true | _ => false) && Ql4 P (i + 1) fs
def Qd0 (P : Program) (T : TypeId) (n : Nat) : Bool :=
 (match P.underlying T with | some (.struct fs) => Ql4 P 0 fs.toList && Nat.beq fs.toList.length n | _ => false) && !P.stoodInHeld T && !P.eqGuardType P.depth T
def iv (a : Int) : Value := .int .i64 a
section
variable {P : Program} {ρ : Operand → Value} {o : Oper} {w : World} {K : Value → World → Prop} {T T' : TypeId} {x y : Operand}
theorem QdM (d : Nat) : ∀ (fs : List Field) (i : Nat) (xs ys : List Int) (X Y : Array Value), Ql4 P i fs = true → fs.length = xs.length → fs.length = ys.length → (∀ j a, xs[j]? = some a → X[i + j]? = some (iv a)) → (∀ j a, ys[j]? = some a → Y[i + j]? = some (iv a)) →
  (Op.eqFields (d + 1) X Y fs).run P w = .ok (eqs xs ys) w
 | [], _, [], [], _, _, _, _, _, _, _ => by simp [Op.eqFields, eqs]
 | f :: fs, i, [], _, _, _, _, h, _, _, _ => by simp at h
 | f :: fs, i, _ :: _, [], _, _, _, _, h, _, _ => by simp at h
 | [], _, _ :: _, _, _, _, _, h, _, _, _ => by simp at h
 | [], _, [], _ :: _, _, _, _, _, h, _, _ => by simp at h
 | f :: fs, i, a :: xs, b :: ys, X, Y, h, hx, hy, hX, hY => by
  simp only [Ql4, Bool.and_eq_true] at h
  obtain ⟨⟨⟨⟨h1, h2⟩, h3⟩, h4⟩, h5⟩ := h
  have hn : f.name ≠ "_" := by simpa using h1
  have ho : f.offset = i := Nat.eq_of_beq_eq_true h2
  have hu : P.underlying f.type = some (.int .i64) := by
   split at h4
   ·assumption
   ·cases h4
  have e1 := run_part_plain (w := w) h3 (hX 0 a rfl)
  have e2 := run_part_plain (w := w) h3 (hY 0 b rfl)
  rw [Nat.add_zero] at e1 e2
  have ih := QdM d fs (i + 1) xs ys X Y h5 (by simpa using hx) (by simpa using hy) (fun j a h => by rw [Nat.add_assoc, Nat.add_comm 1 j]; exact hX (j + 1) a (by simpa using h)) (fun j a h => by rw [Nat.add_assoc, Nat.add_comm 1 j]; exact hY (j + 1) a (by simpa using h))
  simp only [Op.eqFields, if_pos hn, ho, Sem.run_bind, e1, e2, Result.andThen_ok, iv, run_equalIn_int _ _ _ _ _ _ _ hu]
  by_cases e : a = b
  ·subst e
   simp [eqs, ih]
  ·simp [eqs, e]
theorem QcW {l : List Int} {j : Nat} {a : Int} (h : l[j]? = some a) : (l.map iv).toArray[0 + j]? = some (iv a) := by simp [h]
theorem QiD {xs ys : List Int} {n : Nat} {u v : Value} (hT : Qd0 P T n = true) (hu : u = .agg (xs.map iv).toArray) (hv : v = .agg (ys.map iv).toArray) (hnx : xs.length = n) (hny : ys.length = n) (ho : o.op = .binOp .eql T x y T') (hx : ρ x = u) (hy : ρ y = v)
  (hk : K (.bool (eqs xs ys)) w) : Exec P ρ o w K := by
 subst hu; subst hv
 simp only [Qd0, Bool.and_eq_true, Bool.not_eq_true'] at hT
 obtain ⟨⟨h1, h2⟩, h3⟩ := hT
 split at h1
 ·rename_i fs hfs
  simp only [Bool.and_eq_true] at h1
  have hlen : fs.toList.length = n := Nat.eq_of_beq_eq_true h1.2
  have hf : P.fieldsOf T = fs := by simp [Program.fieldsOf, hfs]
  have := QdM (P := P) (w := w) 9998 fs.toList 0 xs ys _ _ h1.1 (by omega) (by omega) (fun j a h => QcW h) (fun j a h => QcW h)
  refine Qaa (op := .eql) ho hx hy (run_eqGuard_agg _ _ _ _ _ _ _ h3) ?_ hk
  rw [run_eql_struct, run_equalIn_agg w 9999 T _ _ (by rw [hf]; exact hfs) h2, hf, this]
  rfl
 ·cases h1
theorem QiC {xs ys : List Int} {n : Nat} {u v : Value} (hT : Qd0 P T n = true) (hu : u = .agg (xs.map iv).toArray) (hv : v = .agg (ys.map iv).toArray) (hnx : xs.length = n) (hny : ys.length = n) (ho : o.op = .binOp .neq T x y T') (hx : ρ x = u) (hy : ρ y = v)
  (hk : K (.bool (!eqs xs ys)) w) : Exec P ρ o w K := by
 subst hu; subst hv
 simp only [Qd0, Bool.and_eq_true, Bool.not_eq_true'] at hT
 obtain ⟨⟨h1, h2⟩, h3⟩ := hT
 split at h1
 ·rename_i fs hfs
  simp only [Bool.and_eq_true] at h1
  have hlen : fs.toList.length = n := Nat.eq_of_beq_eq_true h1.2
  have hf : P.fieldsOf T = fs := by simp [Program.fieldsOf, hfs]
  have := QdM (P := P) (w := w) 9998 fs.toList 0 xs ys _ _ h1.1 (by omega) (by omega) (fun j a h => QcW h) (fun j a h => QcW h)
  refine Qaa (op := .neq) ho hx hy (run_eqGuard_agg _ _ _ _ _ _ _ h3) ?_ hk
  rw [run_neq_struct, run_equalIn_agg w 9999 T _ _ (by rw [hf]; exact hfs) h2, hf, this]
  rfl
 ·cases h1
end
/-! ### results that lie in cells -/
def RR1 (P : Program) (f : Fr) (w : World) : ResultVar → Value → Prop
 | .tmp t, v => v = f t
 | .cell p ty, v => ∃ b off, f p = .pointer (some ⟨b, off, none⟩) ∧ (loadVar ty ⟨b, off, none⟩).run P w = .ok v w
theorem Kb {P : Program} {w0 w : World} {s : PHeap} {H : List Res} {b : Nat} {Tb ty : TypeId} {cs : List Value} (hS : St w0 s (.box b Tb cs :: H) w) (hT : YB P ty = some (true, cs.length)) : (loadVar ty ⟨b, 0, none⟩).run P w = .ok (.agg cs.toArray) w := by
 refine QaD hT ?_
 intro j v hj
 rw [Addr.add_lit]
 simp [World.cell?, hS.box_heap, hj]
section
variable {P : Program} {fn : Func} {f : Fr} {w : World}
def Qhi (tmps : Array Value) : ResultVar → Sem Value
 | .tmp t => pure (tmps.getD t undef)
 | .cell a t => do loadVar t (← asAddr (tmps.getD a undef))
theorem QcE {N : Nat} {a : Act} (ha : Fits N a f) {r : ResultVar} {v : Value} (h : RR1 P f w r v) : (Qhi a.tmps r).run P w = .ok v w := by
 cases r with
 | tmp t => simp only [RR1] at h; simp only [Qhi, Sem.run_pure, ha.get, h]
 | cell p ty =>
  obtain ⟨b, off, h1, h2⟩ := h
  simp only [Qhi, ha.get, h1, asAddr, Sem.run_bind, Sem.run_pure, Result.andThen_ok, h2]
theorem Qfa (tmps : Array Value) : results fn tmps = (do
  let vs ← fn.results.mapM (Qhi tmps)
  pure (if h : vs.size = 1 then vs[0] else .tuple vs)) := by
 unfold results Qhi
 rfl
theorem QaS {r1 r2 : ResultVar} {v1 v2 : Value} (h : fn.results = #[r1, r2]) (h1 : RR1 P f w r1 v1) (h2 : RR1 P f w r2 v2) : QdC P fn f w (.tuple #[v1, v2]) := by
 intro a ha
 rw [Qfa, h]
 simp [Sem.run_bind, QcE ha h1, QcE ha h2]
theorem Ql3 {r1 r2 r3 : ResultVar} {v1 v2 v3 : Value} (h : fn.results = #[r1, r2, r3]) (h1 : RR1 P f w r1 v1) (h2 : RR1 P f w r2 v2) (h3 : RR1 P f w r3 v3) : QdC P fn f w (.tuple #[v1, v2, v3]) := by
 intro a ha
 rw [Qfa, h]
 simp [Sem.run_bind, QcE ha h1, QcE ha h2, QcE ha h3]
theorem Qhg (h : fn.results = #[]) : QdC P fn f w (.tuple #[]) := by
 intro a ha
 rw [Qfa, h]
 simp [Sem.run_bind]
end
end Go.Pw
/- -/
namespace Go.Pw
section
variable {P : Program} {ρ : Operand → Value} {o : Oper} {w w0 : World} {s : PHeap} {H : List Res} {K : Value → World → Prop} {T : TypeId}
/-! ### rows -/
theorem QhD {α : Type} (E : Enc α) (T : TypeId) (s : PHeap) (w : World) : ∀ n, rowsP E T s w (List.replicate n (.slice none 0 0)) (List.replicate n []) []
 | 0 => rfl
 | n + 1 => ⟨[], [], rfl, ⟨[], rfl, World.ownsRow_nil _ _ _ _, rfl⟩, QhD E T s w n⟩
theorem St.rows_nils {α : Type} (hS : St w0 s H w) (E : Enc α) (T : TypeId) (n : Nat) : St w0 s (.rows E T (List.replicate n (.slice none 0 0)) (List.replicate n []) :: H) w := by
 obtain ⟨bs, hn, hs, hb⟩ := hS.own
 exact ⟨hS.os, hS.tape, hS.output, hS.drawn, hS.size, hS.stay, bs, hn, hs, [], bs, Z, QhD E T s w n, hb⟩
theorem Qbx {β : Type} {F : Enc β} {Te T2 : TypeId} {zs : List (List β)} {by_ : Nat} {k k' : IntKind} {l c : Operand} {n : Int} (hS : St w0 s H w) (hT : QZ P T = some (Te, 1, by_)) (hz : Ji P Te = some (.slice none 0 0))
  (ho : o.op = .makeSlice T l c) (hl : ρ l = .int k n) (hc : ρ c = .int k' n) (hm : mk by_ ([] : List β) n = some zs) (hk : ∀ v hs w', St w0 s (.arr encRaw Te v hs :: .rows F T2 hs zs :: H) w' → K v w') : Exec P ρ o w K := by
 obtain ⟨h0, hb, h63, rfl⟩ := QlH hm
 have hm' : mk by_ (Value.slice none 0 0) n = some (List.replicate n.toNat (.slice none 0 0)) := by unfold mk; rw [if_pos ⟨h0, hb, h63⟩]
 exact JJ (E := encRaw) (hS.rows_nils F T2 n.toNat) hT hz ⟨Z, Z⟩ ho hl hc hm' (fun v w' h => hk v _ w' h)
theorem Qbw {β : Type} {F : Enc β} {Te T2 : TypeId} {u v h : Value} {hs : List Value} {xs : List β} {xss zss : List (List β)} {x z : Operand} {g cap m : Nat} {n : Int}
  (hS : St w0 s (.arr F T2 u xs :: .rows F T2 (hs.eraseIdx n.toNat) (xss.eraseIdx n.toNat) :: .arr encRaw Te v hs :: H) w) (hh : hs[n.toNat]? = some h) (hv : v = .slice (some ⟨g, 0, none⟩) hs.length cap) (hT : YB P T = some (false, 1)) (ho : o.op = .store T x z)
  (hx : ρ x = .pointer (some ⟨g, m, none⟩)) (hm : m = 0 + n.toNat * 1) (hz : ρ z = u) (hset : JL xss n xs = some zss) (hk : ∀ hs' w', St w0 s (.arr encRaw Te v hs' :: .rows F T2 hs' zss :: H) w' → K undef w') : Exec P ρ o w K := by
 obtain ⟨h0, hlt, rfl⟩ := QaU hset
 have hi : n.toNat < hs.length := (List.getElem?_eq_some_iff.1 hh).1
 have hone : u.oneCell' = true := hS.arr_one
 have hset' : JL hs n u = some (hs.set n.toNat u) := by unfold JL; rw [if_pos ⟨h0, hi⟩]
 refine Qx (E := encRaw) (y := u) hS.f2 hv hT ho hx hm hz (K5.2 ⟨Z, hone⟩) hset' ?_
 intro w' h'
 have h2 := (h'.f1.f2.f1).rows_join hi hlt
 exact hk _ w' (h2.f1)
/-! ### queues -/
def Res.que {α : Type} (E : Enc α) (T : TypeId) (v : Value) (xs : List α) : Res where
 p := fun s w bs => ∃ cells, reps E s cells xs ∧ ((v = .slice none 0 0 ∧ xs = [] ∧ bs = []) ∨ ∃ (g off cap : Nat) (cur : Array Value), v = .slice (some ⟨g, off, none⟩) xs.length cap ∧ w.heap[g]? = some (.cells cur T (0, 0)) ∧ xs.length ≤ cap ∧ cap ≤ maxLen ∧
  off + cap * E.sz ≤ cur.size ∧ (cur.toList.drop off).take (xs.length * E.sz) = cells ∧ bs = [g])
 loc := by
  rintro s w w' bs ⟨cells, h1, h2⟩ hw
  refine ⟨cells, h1, ?_⟩
  rcases h2 with h | ⟨g, off, cap, cur, hv, hg, h3, h4, h5, h6, rfl⟩
  ·exact .inl h
  ·exact .inr ⟨g, off, cap, cur, hv, by rw [hw g (by simp)]; exact hg, h3, h4, h5, h6, Z⟩
 mono := fun l ⟨cells, h1, h2⟩ => ⟨cells, h1.mono l, h2⟩
 lt := by
  rintro s w bs ⟨cells, h1, h2⟩ b hb
  rcases h2 with ⟨_, _, rfl⟩ | ⟨g, off, cap, cur, hv, hg, h3, h4, h5, h6, rfl⟩
  ·simp at hb
  ·simp at hb; subst hb; exact (Array.getElem?_eq_some_iff.1 hg).1
section
variable {α : Type} {E : Enc α} {Te : TypeId} {v : Value} {xs : List α}
theorem St.arr_que (hS : St w0 s (.arr E Te v xs :: H) w) : St w0 s (.que E Te v xs :: H) w := by
 obtain ⟨bs, hn, hs, b1, b2, e, ⟨cells, h1, h2, rfl⟩, h3⟩ := hS.own
 refine ⟨hS.os, hS.tape, hS.output, hS.drawn, hS.size, hS.stay, bs, hn, hs, v.ownBlock.toList, b2, e, ⟨cells, h1, ?_⟩, h3⟩
 rcases h2.2 with ⟨rfl, hx⟩ | ⟨g, cap, cur, rfl, _, hg, hnc, hcm, hcs, htake⟩
 ·exact .inl ⟨Z, List.eq_nil_of_length_eq_zero hx, Z⟩
 ·exact .inr ⟨g, 0, cap, cur, Z, hg, hnc, hcm, by omega, by rw [List.drop_zero]; exact htake, Z⟩
theorem St.que_shape (hS : St w0 s (.que E Te v xs :: H) w) : ∃ a c, v = .slice a xs.length c := by
 obtain ⟨bs, hn, hs, b1, b2, e, ⟨cells, h1, h2⟩, h3⟩ := hS.own
 rcases h2 with ⟨rfl, rfl, _⟩ | ⟨g, off, cap, cur, rfl, _⟩
 ·exact ⟨_, _, Z⟩
 ·exact ⟨_, _, Z⟩
theorem QjL {x : Operand} {e n b : Nat} (hS : St w0 s (.que E Te v xs :: H) w) (hT : QZ P T = some (e, n, b)) (ho : o.op = .call { callee := .builtin .len, args := #[x], argTypes := #[T] }) (hx : ρ x = v) (hk : K (.int .i64 (xs.length : Int)) w) : Exec P ρ o w K := by
 obtain ⟨i, hu, _⟩ := QL hT
 obtain ⟨a, c, rfl⟩ := hS.que_shape
 exact Qah hu ho hx hk
theorem St.que_at {n : Int} {y : α} (hS : St w0 s (.que E Te v xs :: H) w) (hy : Q9 xs n = some y) : ∃ g off cap, v = .slice (some ⟨g, off, none⟩) xs.length cap ∧
  ∃ cur, w.heap[g]? = some (.cells cur Te (0, 0)) ∧ E.rep s ((cur.toList.drop (off + n.toNat * E.sz)).take E.sz) y := by
 obtain ⟨h0, hlt, hget⟩ := Qb hy
 obtain ⟨bs, hn, hs, b1, b2, e, ⟨cells, h1, h2⟩, h3⟩ := hS.own
 rcases h2 with ⟨rfl, rfl, _⟩ | ⟨g, off, cap, cur, rfl, hg, hnc, hcm, hcs, htake, _⟩
 ·simp at hget
 ·obtain ⟨d, hd, hr⟩ := h1.get hget
  refine ⟨g, off, cap, Z, cur, hg, ?_⟩
  have hmul : n.toNat * E.sz + E.sz ≤ xs.length * E.sz := by rw [← Nat.succ_mul]; exact Nat.mul_le_mul_right _ (by omega)
  rw [← htake, List.drop_take, List.drop_drop, List.take_take] at hr
  have : min E.sz (xs.length * E.sz - n.toNat * E.sz) = E.sz := by omega
  rw [this] at hr
  rw [hr]; exact hd
theorem Qio {x i : Operand} {k : IntKind} {n : Int} {y : α} {e by_ : Nat} (hS : St w0 s (.que E Te v xs :: H) w) (hT : QZ P T = some (e, E.sz, by_)) (ho : o.op = .indexAddr T x i) (hx : ρ x = v) (hi : ρ i = .int k n) (hy : Q9 xs n = some y)
  (hk : ∀ g off, (∃ cur, w.heap[g]? = some (.cells cur Te (0, 0)) ∧ E.rep s ((cur.toList.drop off).take E.sz) y) → K (.pointer (some ⟨g, off, none⟩)) w) : Exec P ρ o w K := by
 obtain ⟨h0, h1, _⟩ := Qb hy
 obtain ⟨g, off, cap, rfl, hc⟩ := hS.que_at hy
 exact Qa hT ho hx hi h0 h1 (hk _ _ hc)
theorem QiA {y : α} {x : Operand} {g off : Nat} (hc : ∃ cur, w.heap[g]? = some (.cells cur Te (0, 0)) ∧ E.rep s ((cur.toList.drop off).take E.sz) y) (hT : YB P T = some (E.agg, E.sz)) (ho : o.op = .load T x) (hx : ρ x = .pointer (some ⟨g, off, none⟩)) (hk : ∀ v, E.val s v y → K v w) : Exec P ρ o w K := by
 obtain ⟨cur, hg, hr⟩ := hc
 exact QhL hT ho hx hg hr hk
theorem Qil {ys : List α} {x lo : Operand} {k : IntKind} {l : Int} {e by_ : Nat} (hS : St w0 s (.que E Te v xs :: H) w) (hT : QZ P T = some (e, E.sz, by_)) (ho : o.op = .slice T x (some lo) none none) (hx : ρ x = v) (hh : ρ lo = .int k l)
  (hy : Go.Pw.cut xs l xs.length = some ys) (hk : ∀ u, St w0 s (.que E Te u ys :: H) w → K u w) : Exec P ρ o w K := by
 obtain ⟨h0, h1, _, rfl⟩ := Qkw hy
 obtain ⟨i, hu, hi', hs, _⟩ := QL hT
 obtain ⟨a, c, hv⟩ := hS.que_shape
 have hlen : ((xs.take (xs.length : Int).toNat).drop l.toNat).length = xs.length - l.toNat := by simp
 refine .of_run (v := .slice (if c = l.toNat then a else a.map (·.add (l.toNat * E.sz))) (xs.length - l.toNat) (c - l.toNat)) ?_ (hk _ ?_)
 ·unfold execOp
  simp only [ho, hx, hv, hh, Option.map_none, Option.map_some, Instr.sliceAt, Instr.slice, Instr.sliceBounds, Sem.run_bind, run_underlying hu, Result.andThen_ok, Sem.run_pure, Yv (P := P) (w := w) (k := k) h0 h1]
  simp [sizeOf, typeInfo, hi', hs]
 ·obtain ⟨bs, hn, hss, b1, b2, e, ⟨cells, h2, h3⟩, h4⟩ := hS.own
  refine ⟨hS.os, hS.tape, hS.output, hS.drawn, hS.size, hS.stay, bs, hn, hss, b1, b2, e, ⟨cells.drop (l.toNat * E.sz), ?_, ?_⟩, h4⟩
  ·have := h2.drop l.toNat
   simpa using this
  ·rcases h3 with ⟨rfl, rfl, rfl⟩ | ⟨g, off, cap, cur, rfl, hg, hnc, hcm, hcs, htake, rfl⟩
   ·have hl0 : l.toNat = 0 := by simp at h1; omega
    cases hv
    exact .inl ⟨by simp [hl0], by simp, Z⟩
   ·cases hv
    right
    by_cases hc : c = l.toNat
    ·refine ⟨g, off, 0, cur, ?_, hg, by rw [hlen]; omega, by simp, by omega, ?_, Z⟩
     ·rw [if_pos hc, hlen, hc, Nat.sub_self]
     ·rw [hlen]
      have : xs.length - l.toNat = 0 := by omega
      rw [this, Nat.zero_mul, List.take_zero]
      symm
      apply List.drop_eq_nil_of_le
      rw [h2.len]
      exact Nat.mul_le_mul_right _ (by omega)
    ·refine ⟨g, off + l.toNat * E.sz, c - l.toNat, cur, ?_, hg, by rw [hlen]; omega, by omega, ?_, ?_, Z⟩
     ·rw [if_neg hc, hlen]; simp [Addr.add_lit]
     ·have : l.toNat * E.sz + (c - l.toNat) * E.sz = c * E.sz := by rw [← Nat.add_mul]; congr 1; omega
      omega
     ·rw [hlen, ← htake, List.drop_take, List.drop_drop, Nat.sub_mul]
theorem Qfl {t ty e : TypeId} {i : TypeInfo} (ht : P.underlying t = some (.slice e)) (hi : P.info? e = some i) (b off sLen sCap : Nat) (cur : Array Value) (Tb : TypeId) (hw : w.heap[b]? = some (.cells cur Tb (0, 0))) (a : Addr) (m c : Nat) (news : List Value)
  (hl : news.length = m * i.size) (hnews : ∀ j u, news[j]? = some u → w.cell? (a.add j) = some u) (h1 : ∀ u ∈ news, u.oneCell' = true) (hroom : sLen + m ≤ sCap) (hfit : off + sLen * i.size + news.length ≤ cur.size) :
  (Builtin.append_ #[t, t] ty #[.slice (some ⟨b, off, none⟩) sLen sCap, .slice (some a) m c]).run P w = .ok (.slice (some ⟨b, off, none⟩) (sLen + m) sCap) (w.setRow b (cur.toList.take (off + sLen * i.size) ++ news ++ cur.toList.drop (off + sLen * i.size + news.length)).toArray) := by
 have hfc := run_firstCells_some (P := P) w i.size m a m c news hl hnews
 have hst := run_storeCells_at P b (off + sLen * i.size) Tb news 0 cur w hw (by simpa using hfit) h1
 simp only [Nat.add_zero] at hst
 simp [Builtin.append_, run_underlying ht, sizeOf, typeInfo, hi, Builtin.lenOf, hroom, hfc, Addr.add_lit, hst]
theorem QgR {u z : Value} {ys zs : List α} {t by_ b n cap : Nat} {cs : List Value} {x y : Operand} (hS : St w0 s (.que E Te v xs :: .box b Te cs :: H) w)
  (hT : QZ P t = some (Te, E.sz, by_)) (hz : Ji P Te = some z) (hzs : z.cells.size = E.sz) (hby : 0 < by_) (ho : o.op = .call { callee := .builtin .append, args := #[x, y], argTypes := #[t, t] }) (hx : ρ x = v) (hy : ρ y = u)
  (hu : u = .slice (some ⟨b, 0, none⟩) n cap) (hr : reps E s cs ys) (hn : n = ys.length) (ha : app by_ xs ys = some zs)
  (hk : ∀ v' w', St w0 s (.que E Te v' zs :: H) w' → K v' w') : Exec P ρ o w K := by
 obtain ⟨hb, rfl⟩ := QfA ha
 subst hn
 have hbox := (hS.perm (.swap _ _ _)).box_heap
 have hcell : ∀ j u, cs[j]? = some u → w.cell? ((⟨b, 0, none⟩ : Addr).add j) = some u := by
  intro j u hj
  rw [Addr.add_lit]
  simp [World.cell?, hbox, hj]
 suffices hmain : ∃ v' w', (Builtin.append_ #[t, t] o.type #[v, .slice (some ⟨b, 0, none⟩) ys.length cap]).run P w = .ok v' w' ∧ St w0 s (.que E Te v' (xs ++ ys) :: .box b Te cs :: H) w' by
  obtain ⟨v', w', hrun, hS'⟩ := hmain
  refine .of_run (v := v') (w' := w') ?_ (hk v' w' (hS'.perm (.swap _ _ _)).drop)
  unfold execOp
  simp only [ho, resolve, invoke, builtin, Sem.run_bind, Sem.run_pure, Result.andThen_ok, List.map_toArray, List.map_cons, List.map_nil, hx, hy, hu, hrun]
 obtain ⟨bs, hnn, hss, b1, b2, e, ⟨cells, h1, h2⟩, h3⟩ := hS.own
 have hlen := h1.len
 obtain ⟨i, hiu, hi, hsz, hbs⟩ := QL hT
 obtain ⟨i', hi', hz'⟩ := Qar hz
 rw [hi] at hi'
 cases hi'
 have h63 : xs.length + ys.length ≤ maxLen := by
  have : xs.length + ys.length ≤ (xs.length + ys.length) * by_ := Nat.le_mul_of_pos_right _ hby
  simp only [maxLen]; omega
 rcases h2 with ⟨rfl, rfl, rfl⟩ | ⟨g, off, cap', cur, rfl, hg, hnc, hcm, hcs, htake, rfl⟩
 ·-- nil: a new row
  have hS0 : St w0 s (.box b Te cs :: H) w := hS.drop
  have hA := hS0.nilArr E Te
  obtain ⟨v', w', hrun, hS'⟩ := YR (P := P) (ty := o.type) hA hT hz hzs ⟨b, 0, none⟩ cap cs hcell hr hb hby
  exact ⟨v', w', hrun, hS'.arr_que⟩
 ·by_cases hroom : xs.length + ys.length ≤ cap'
  ·have hmul : (xs.length + ys.length) * E.sz ≤ cap' * E.sz := Nat.mul_le_mul_right _ hroom
   rw [Nat.add_mul] at hmul
   have hrun := Qfl (P := P) (w := w) (ty := o.type) hiu hi g off xs.length cap' cur Te hg ⟨b, 0, none⟩ ys.length cap cs (by rw [hr.len, hsz]) hcell hr.one hroom (by rw [hr.len, hsz]; omega)
   refine ⟨_, _, hrun, ?_⟩
   refine hS.turn Z Z Z (Nat.le_refl _) (by rw [QbX]; exact Nat.le_refl _) ?_
   rintro c1 ⟨cells', _, h2'⟩
   rcases h2' with ⟨h, _⟩ | ⟨g', off', cap2, cur', hv', hg', _, _, _, _, rfl⟩
   ·cases h
   ·cases hv'
    refine ⟨[g], ⟨cells ++ cs, h1.append hr, .inr ⟨g, off, cap', _, by rw [List.length_append], setRow_heap w g cur _ Te _ hg, by rw [List.length_append]; exact hroom, hcm, ?_, ?_, Z⟩⟩, by simp, fun x hx => .inl hx, fun x _ hx => setRow_other w g x _ (by simpa using hx)⟩
    ·have := hr.len
     simp only [List.size_toArray, List.length_append, List.length_take, List.length_drop, Array.length_toList, hsz]
     omega
    ·rw [hsz, List.length_append, Nat.add_mul]
     have hA : (cur.toList.take (off + xs.length * E.sz)).length = off + xs.length * E.sz := by simp; omega
     rw [List.toList_toArray, List.append_assoc, List.drop_append_of_le_length (by rw [hA]; omega), List.drop_take, show off + xs.length * E.sz - off = xs.length * E.sz by omega, htake]
     rw [List.take_append, hlen, List.take_of_length_le (by rw [hlen]; omega), show xs.length * E.sz + ys.length * E.sz - xs.length * E.sz = ys.length * E.sz by omega]
     congr 1
     rw [← hr.len, List.take_left]
  ·have holds : ∀ j u, cells[j]? = some u → w.cell? ((⟨g, off, none⟩ : Addr).add j) = some u := by
    intro j u hj
    rw [Addr.add_lit]
    rw [← htake, List.getElem?_take] at hj
    split at hj
    ·rw [List.getElem?_drop] at hj
     simp [World.cell?, hg]
     simpa using hj
    ·cases hj
   have hrun := run_append_grow (P := P) w t o.type Te i z hiu hi hz' ⟨g, off, none⟩ xs.length cap' cells (by rw [hlen, hsz]) holds ⟨b, 0, none⟩ ys.length cap cs (by rw [hr.len, hsz]) hcell (by omega) (by simp only [maxLen] at h63; omega) (by rw [hbs]; exact growslice_fits (by omega) hb)
   refine ⟨_, _, hrun, ?_⟩
   have hge := grownCap_ge w (xs.length + ys.length) cap' Te
   have hcm' := grownCap_le_maxLen w (xs.length + ys.length) cap' Te h63
   refine hS.turn Z Z Z (Nat.le_succ _) (by simp) ?_
   rintro c1 ⟨cells', _, h2'⟩
   rcases h2' with ⟨h, _⟩ | ⟨g', off', cap2, cur', hv', hg', _, _, _, _, rfl⟩
   ·cases h
   ·cases hv'
    refine ⟨[w.heap.size], ⟨cells ++ cs, h1.append hr, .inr ⟨w.heap.size, 0, _, _, by rw [List.length_append], heap_alloc_new w.drew _, by rw [List.length_append]; exact hge, hcm', ?_, ?_, Z⟩⟩, by simp, fun x hx => .inr (by simp at hx; omega), fun x hx _ => Ks w.drew _ hx⟩
    ·simp only [Array.size_append, List.size_toArray, size_zeroCells, hzs, hlen, hr.len, ← Nat.add_mul]
     rw [Nat.zero_add]
     exact Nat.mul_le_mul_right _ (by omega)
    ·rw [List.drop_zero]
     simp only [Array.toList_append, List.append_assoc]
     rw [← List.append_assoc, List.length_append, Nat.add_mul, ← hlen, ← hr.len, ← List.length_append]
     exact List.take_left
end
end
theorem Qia {P : Program} {ρ : Operand → Value} {o : Oper} {w : World} {K : Value → World → Prop} {c : Operand} {f : FuncId} {fn : Func} {args : List Operand} {ts : Array TypeId} {vs : List Value} (ho : o.op = .call { callee := .value c, args := args.toArray, argTypes := ts }) (hc : ρ c = .func (.func f) #[] #[])
  (hf : P.funcs[f]? = some fn) (hb : fn.body.isNone = false) (hn : (fn.name == "runtime.NumGoroutine") = false) (hargs : List.map ρ args = vs)
  (h : Calls P f vs.toArray w fun e w' => ∃ v, e = .returned v ∧ K v w') : Exec P ρ o w K :=
 QhZ ho hc hf hb hn hargs (by simpa using h)
end Go.Pw
