/- -/
import Derived.Test.YtjbjflndiajoiaaGreatDoorWaTc
import Derived.Test.YtjbjflndiajoiaaGreatDoorWaTd
set_option maxHeartbeats 4000000
set_option linter.unusedSimpArgs false
set_option linter.unusedVariables false
namespace Go.Pw
def QmW (t : Task) : Prop := ∀ o ∈ t.Ops, ∀ e ∈ o.Effs, ∀ f ∈ e.When, f.Var = e.Var
def Qhd (o : Op) : List Int → Nat
 | [] => 0
 | v :: l => QjS o v + Qhd o l
theorem QgE (o : Op) (l k : List Int) : Qhd o (l ++ k) = Qhd o l + Qhd o k := by
 induction l with
 | nil => simp [Qhd]
 | cons v l ih => simp only [List.cons_append, Qhd, ih]; omega
theorem QgD (o : Op) : ∀ {l : List Int}, l.Nodup → Qhd o l = ((cE o).filter fun e => decide (e.Var ∈ l)).length
 | [], _ => by rw [List.filter_eq_nil_iff.2 (by simp)]; rfl
 | v :: l, h => by
  obtain ⟨h1, h2⟩ := List.nodup_cons.1 h
  rw [Qhd, QgD o h2]
  unfold QjS
  induction cE o with
  | nil => simp
  | cons e r ih =>
   simp only [List.filter_cons, List.mem_cons]
   by_cases a : e.Var = v
   ·have b : e.Var ∉ l := by rw [a]; exact h1
    have b' : v ∉ l := h1
    simp only [a, b', true_or, decide_true, decide_false, if_true, Bool.false_eq_true, if_false, List.length_cons]
    simp only [List.mem_cons] at ih
    omega
   ·by_cases b : e.Var ∈ l
    ·simp only [a, b, false_or, decide_true, decide_false, if_true, Bool.false_eq_true, if_false, List.length_cons]
     simp only [List.mem_cons] at ih
     omega
    ·simp only [a, b, false_or, decide_false, Bool.false_eq_true, if_false]
     simp only [List.mem_cons] at ih
     exact ih
theorem QoQ (o : Op) {l : List Int} (h : l.Nodup) : Qhd o l ≤ (cE o).length := by
 rw [QgD o h]
 exact List.length_filter_le _ _
def Qb6 (t : Task) (L : List Int) : Int := JW (L.map (Ka t.Vars))
theorem QbY (t : Task) (L K : List Int) : Qb6 t (L ++ K) = Qb6 t L * Qb6 t K := by unfold Qb6; rw [List.map_append, QbF]
theorem Qbh (t : Task) (v : Int) : Qb6 t [v] = Ka t.Vars v := by simp [Qb6, JW]
theorem Qf3 {t : Task} (ht : GoodT t) {L : List Int} (hL : ∀ w ∈ L, 0 ≤ w ∧ w < (t.Vars.length : Int)) : 1 ≤ Qb6 t L := by
 refine QbN fun x hx => ?_
 obtain ⟨w, hw, rfl⟩ := List.mem_map.1 hx
 exact (Y6 ht.v (hL w hw).1 (hL w hw).2).1
def QgG (v : Int) (s : List Int) : Nat := (s[v.toNat]?.getD 0).toNat
structure CInv (t : Task) (L : List Int) (x : System) (F : List Int → Nat) : Prop where
 v : VSys x
 c : x.Costs = t.Ops.map fun o => o.Cost
 r : ∀ s, StateOK t.Vars s → F s < x.States.toNat
 d : ∀ s s', StateOK t.Vars s → StateOK t.Vars s' → (∀ w ∈ L, s[w.toNat]? = s'[w.toNat]?) → F s = F s'
 f : ∀ (s : List Int) (l : Nat) (o : Op), StateOK t.Vars s → t.Ops[l]? = some o → Ki o.Pre s → Qc8 x (F s) l (F (JF o.Effs s))
 g : ∀ s, StateOK t.Vars s → (∀ q ∈ t.Goal, q.Var ∈ L → s[q.Var.toNat]? = some q.Val) → x.Goals[F s]? = some true
 b : ∀ (l : Nat) (o : Op), t.Ops[l]? = some o → EB (J0 x l).length (Qhd o L) (Qb6 t L).toNat
 n : x.States ≤ Qb6 t L
structure CAbs (t : Task) (L : List Int) (x : System) (F : List Int → Nat) : Prop where
 v : VSys x
 c : x.Costs = t.Ops.map fun o => o.Cost
 r : ∀ s, StateOK t.Vars s → F s < x.States.toNat
 f : ∀ (s : List Int) (l : Nat) (o : Op), StateOK t.Vars s → t.Ops[l]? = some o → Ki o.Pre s → Qc8 x (F s) l (F (JF o.Effs s))
 g : ∀ s, StateOK t.Vars s → (∀ q ∈ t.Goal, q.Var ∈ L → s[q.Var.toNat]? = some q.Val) → x.Goals[F s]? = some true
theorem CInv.abs {t : Task} {L : List Int} {x : System} {F : List Int → Nat} (h : CInv t L x F) : CAbs t L x F := ⟨h.v, h.c, h.r, h.f, h.g⟩
structure CEx (t : Task) (L : List Int) (x : System) (F : List Int → Nat) : Prop where
 bw : ∀ (s : List Int) (l : Nat) (o : Op) (c : Nat), StateOK t.Vars s → t.Ops[l]? = some o → Qc8 x (F s) l c → ∃ s', StateOK t.Vars s' ∧ F s' = c ∧ ∀ w ∈ L, ∀ a b, s[w.toNat]? = some a → s'[w.toNat]? = some b → TB t o w a b
 gl : ∀ s, StateOK t.Vars s → x.Goals[F s]? = some true → ∀ q ∈ t.Goal, q.Var ∈ L → s[q.Var.toNat]? = some q.Val
section
variable {t : Task} {x y z : System} {F G : List Int → Nat} {L : List Int}
theorem QeZ {t : Task} (ht : GoodT t) {l : Nat} {o : Op} (ho : t.Ops[l]? = some o) {s : List Int} (hs : StateOK t.Vars s) : StateOK t.Vars (JF o.Effs s) :=
 Qc5 hs fun e he => ((ht.op o (List.mem_of_getElem? ho)).eff e he).2
theorem QdA {v : Int} {s : List Int} (hs : StateOK t.Vars s) (h0 : 0 ≤ v) (h1 : v < (t.Vars.length : Int)) : s[v.toNat]? = some (QgG v s : Int) ∧ (QgG v s : Int) < Ka t.Vars v := by
 obtain ⟨a, ha, ha0, ha1⟩ := hs.at h0 h1
 unfold QgG
 rw [ha]
 simp only [Option.getD_some]
 rw [Int.toNat_of_nonneg ha0]
 exact ⟨Z, ha1⟩
theorem Qgo (ht : SmallT t) {v : Int} (h0 : 0 ≤ v) (h1 : v < (t.Vars.length : Int)) (hx : AtomRes t v x) : CInv t [v] x (QgG v) ∧ CEx t [v] x (QgG v) := by
 have hd := Y6 ht.g.v h0 h1
 refine ⟨⟨hx.vsys ht.g h0 h1, hx.c, fun s hs => ?_, fun s s' hs hs' h => ?_, fun s l o hs ho hp => ?_, fun s hs h => ?_, fun l o ho => ?_, by rw [Qbh, hx.s]; exact Int.le_refl _⟩, ⟨fun s l o c hs ho he => ?_, fun s hs h q hq hv => ?_⟩⟩
 ·have := (QdA hs h0 h1).2
  have := hx.s
  omega
 ·unfold QgG; rw [h v (by simp)]
 ·have hop := ht.g.op o (List.mem_of_getElem? ho)
  have hat := QeD hs h0 h1 (effs := o.Effs) fun e he => (hop.eff e he).2
  have h2 := QdA (QeZ ht.g ho hs) h0 h1
  rw [hat] at h2
  exact (hx.mem _).2 ⟨l, o, ho, Z, s, hs, (QdA hs h0 h1).1, hp, (Zu h2.1).symm⟩
 ·obtain ⟨a1, a2⟩ := QdA hs h0 h1
  obtain ⟨b, hb, hb2⟩ := hx.g (QgG v s) a2
  rw [hb, hb2.2]
  intro q hq hv
  have := h q hq (by simp [hv])
  rw [hv, a1] at this
  exact (Zu this).symm
 ·have := QoY ht.g h0 h1 hx ho
  simpa [Qhd, Qbh] using this
 ·obtain ⟨i, o', ho', hl, σ, s1, s2, s3, s4⟩ := (hx.mem _).1 he
  simp only at hl s2 s4
  obtain rfl : l = i := by omega
  rw [ho] at ho'; cases ho'
  have hat := QeD s1 h0 h1 (effs := o.Effs) fun e he => ((ht.g.op o (List.mem_of_getElem? ho)).eff e he).2
  refine ⟨JF o.Effs σ, QeZ ht.g ho s1, ?_, ?_⟩
  ·unfold QgG; rw [hat, ← s4]; simp
  ·intro w hw a b ha hb
   simp only [List.mem_singleton] at hw
   subst hw
   rw [(QdA hs h0 h1).1] at ha
   cases ha
   rw [hat] at hb
   exact ⟨σ, s1, s2, s3, (Zu hb).symm⟩
 ·obtain ⟨a1, a2⟩ := QdA hs h0 h1
  obtain ⟨b, hb, hb2⟩ := hx.g (QgG v s) a2
  rw [hb] at h
  have hv' : q.Var = v := by simpa using hv
  have := hb2.1 (Zu h) q hq hv'
  rw [hv', a1, this]
theorem CInv.le (h : CInv t L x F) (K : List Int) (hK : L = K) : CInv t K x F := hK ▸ h
theorem QjE (hv : VSys x) {i : Nat} (h : x.Goals[i]? = some true) : i < x.States.toNat := by
 have := (List.getElem?_eq_some_iff.1 h).1
 have := hv.g
 omega
theorem Qm9 (h : CInv t L x F) {c : List Int} {K : Nat} (hK : KOK c x.States.toNat K) (hq : QRes x c K y) : CInv t L y (fun s => cN c (F s)) := by
 have hc := hK.clsOf
 have hv := h.v
 refine ⟨hq.v hv hK, by rw [hq.cs, h.c], fun s hs => ?_, fun s s' hs hs' he => by simp only [h.d s s' hs hs' he], fun s l o hs ho hp => ?_, fun s hs hg => ?_, fun l o ho => ?_, ?_⟩
 ·have := (hc.get (h.r s hs)).2
  have := hq.s
  omega
 ·exact (hq.edge hv).2 ⟨_, _, h.f s l o hs ho hp, Z, Z⟩
 ·have h1 := hc.get (h.r s hs)
  rw [hq.g _ h1.2, KW.2 ⟨F s, h1.1, h.g s hs hg⟩]
 ·refine (h.b l o ho).le ?_
  have := QbO (C := J0 y l) (M := (J0 x l).map (Qjb c)) (List.Pairwise.filter _ (Srt.nodup hq.o)) fun d hd => ?_
  ·simpa using this
  ·obtain ⟨h1, h2⟩ := KL.1 hd
   obtain ⟨e, he, rfl⟩ := (hq.e d).1 h1
   exact List.mem_map.2 ⟨e, KL.2 ⟨he, h2⟩, Z⟩
 ·have := hK.le
  have := hq.s
  have := h.n
  have := hv.s1
  omega
theorem Qoj (h : CInv t L x F) (hx : CEx t L x F) {c : List Int} {K : Nat} (hK : KOK c x.States.toNat K) (hq : QRes x c K y) (hb : IsBis (Qb7 x h.v) c) : CEx t L y (fun s => cN c (F s)) := by
 have hc := hK.clsOf
 have hv := h.v
 refine ⟨fun s l o k hs ho he => ?_, fun s hs hg => ?_⟩
 ·obtain ⟨i, u, h1, h2, h3⟩ := (hq.edge hv).1 he
  have hr := (Qb7 x hv).rng i l u h1
  have hi : i < x.States.toNat := hr.1
  have heq : eqL c i (F s) := (QiH hc hi (h.r s hs)).1 h2
  obtain ⟨u', e1, e2⟩ := (hb.1.sig i (F s) hi (h.r s hs) heq).1 l u h1
  obtain ⟨s', g1, g2, g3⟩ := hx.bw s l o u' hs ho e1
  refine ⟨s', g1, ?_, g3⟩
  have hr' := (Qb7 x hv).rng (F s) l u' e1
  show cN c (F s') = k
  rw [g2, ← h3]
  exact (QiH hc hr'.2 hr.2).2 (Eq.symm e2)
 ·have h1 := hc.get (h.r s hs)
  rw [hq.g _ h1.2] at hg
  obtain ⟨i, hi, hgi⟩ := KW.1 (Zu hg)
  have hil := QjE hv hgi
  have heq : eqL c i (F s) := by unfold eqL; rw [hi, h1.1]
  have hgg := hb.1.goal i (F s) hil (h.r s hs) heq
  have hgg' : x.Goals[i]?.getD false = x.Goals[F s]?.getD false := hgg
  rw [hgi] at hgg'
  have : x.Goals[F s]? = some true := by
   cases e : x.Goals[F s]? with
   | none => rw [e] at hgg'; cases hgg'
   | some b => rw [e] at hgg'; simp at hgg'; rw [hgg']
  exact hx.gl s hs this
theorem Qnn (n : Nat) (l u v u' v' : Nat) (y : System) (hn : y.States = (n : Int)) : mkE y.States (l : Int) (⟨(u : Int), (l : Int), (v : Int)⟩ : Edge) (⟨(u' : Int), (l : Int), (v' : Int)⟩ : Edge) = ⟨((u * n + u' : Nat) : Int), (l : Int), ((v * n + v' : Nat) : Int)⟩ := by
 unfold mkE
 rw [hn]
 simp
theorem QiN (hx : VSys x) (hy : VSys y) (hz : ProdRes x y z) {i l k : Nat} : Qc8 z i l k ↔ ∃ u v u' v', Qc8 x u l v ∧ Qc8 y u' l v' ∧ i = u * y.States.toNat + u' ∧ k = v * y.States.toNat + v' := by
 have hn : y.States = (y.States.toNat : Int) := by have := hy.s1; omega
 unfold Qc8
 rw [hz.e]
 constructor
 ·rintro ⟨e, he, f, hf, hl, h⟩
  obtain ⟨u, l1, v, rfl, _, _, _⟩ := Qbj hx he
  obtain ⟨u', l2, v', rfl, _, _, _⟩ := Qbj hy hf
  simp only at hl h
  obtain rfl : l1 = l2 := by omega
  rw [Qnn _ l1 u v u' v' y hn] at h
  simp only [Edge.mk.injEq] at h
  obtain rfl : l = l1 := by omega
  exact ⟨u, v, u', v', he, hf, by omega, by omega⟩
 ·rintro ⟨u, v, u', v', he, hf, rfl, rfl⟩
  exact ⟨_, he, _, hf, Z, by rw [Qnn _ l u v u' v' y hn]⟩
theorem QiM (hx : VSys x) (hy : VSys y) (hz : ProdRes x y z) {i k : Nat} (hi : i < x.States.toNat) (hk : k < y.States.toNat) : z.Goals[i * y.States.toNat + k]? = some true ↔ x.Goals[i]? = some true ∧ y.Goals[k]? = some true := by
 have h1 := hx.g
 have h2 := hy.g
 obtain ⟨a, ha⟩ := Qt (xs := x.Goals) (i := i) (by omega)
 obtain ⟨b, hb⟩ := Qt (xs := y.Goals) (i := k) (by omega)
 have hl : y.Goals.length = y.States.toNat := by omega
 rw [hz.g]
 unfold Qhn
 have := Qe9 (f := fun g => y.Goals.map fun h => g && h) (m := y.States.toNat) (xs := x.Goals) (by simp [hl]) ha (y := k) (z := a && b) (by rw [List.getElem?_map, hb]; rfl)
 rw [this, ha, hb]
 simp
theorem QoF {a b m n : Nat} (ha : a < m) (hb : b < n) : a * n + b < m * n := by
 have : (a + 1) * n ≤ m * n := Nat.mul_le_mul_right _ ha
 rw [Nat.succ_mul] at this
 omega
theorem QnH {a b c d n : Nat} (hb : b < n) (hd : d < n) (h : a * n + b = c * n + d) : a = c ∧ b = d := by
 have := Qjx (n := (n : Int)) (x := (a : Int)) (y := (b : Int)) (x' := (c : Int)) (y' := (d : Int)) (by omega) (by omega) (by omega) (by omega) (by exact_mod_cast h)
 omega
theorem QmA (ht : SmallT t) (hL : ∀ w ∈ L, 0 ≤ w ∧ w < (t.Vars.length : Int)) {v : Int} (h0 : 0 ≤ v) (h1 : v < (t.Vars.length : Int)) (hx : CInv t L x F) (hy : CInv t [v] y G) (hz : ProdRes x y z) (hs : x.States * y.States ≤ 4096) (hl : z.Edges.length ≤ 65536) : CInv t (L ++ [v]) z (fun s => F s * y.States.toNat + G s) := by
 have hxs := hx.v.s1
 have hys := hy.v.s1
 have hc : x.Costs = y.Costs := by rw [hx.c, hy.c]
 have hst : z.States.toNat = x.States.toNat * y.States.toNat := by rw [hz.s, Int.toNat_mul (by omega) (by omega)]
 have hp1 := Qf3 ht.g hL
 have hd := Y6 ht.g.v h0 h1
 have hp2 : Qb6 t [v] = Ka t.Vars v := Qbh t v
 refine ⟨hz.v hx.v hy.v hc hs hl, by rw [hz.c, hx.c], fun s hs => ?_, fun s s' hs hs' he => ?_, fun s l o hs ho hp => ?_, fun s hs hg => ?_, fun l o ho => ?_, ?_⟩
 ·rw [hst]
  exact QoF (hx.r s hs) (hy.r s hs)
 ·have e1 := hx.d s s' hs hs' fun w hw => he w (by simp [hw])
  have e2 := hy.d s s' hs hs' fun w hw => he w (by simp at hw; simp [hw])
  simp only [e1, e2]
 ·exact (QiN hx.v hy.v hz).2 ⟨_, _, _, _, hx.f s l o hs ho hp, hy.f s l o hs ho hp, Z, Z⟩
 ·exact (QiM hx.v hy.v hz (hx.r s hs) (hy.r s hs)).2 ⟨hx.g s hs fun q hq hm => hg q hq (by simp [hm]), hy.g s hs fun q hq hm => hg q hq (by simp at hm; simp [hm])⟩
 ·have := ((hx.b l o ho).mul (hy.b l o ho)).le (Qmo hz hx.v hy.v l)
  rw [QgE, QbY, Int.toNat_mul (by omega) (by omega)]
  exact this
 ·rw [hz.s, QbY]
  exact Int.mul_le_mul hx.n hy.n (by omega) (by omega)
theorem Qok (ht : SmallT t) (hL : ∀ w ∈ L, 0 ≤ w ∧ w < (t.Vars.length : Int)) {v : Int} (h0 : 0 ≤ v) (h1 : v < (t.Vars.length : Int)) (hvL : v ∉ L) (hx : CInv t L x F) (hy : CInv t [v] y G) (hz : ProdRes x y z) (ex : CEx t L x F) (ey : CEx t [v] y G) : CEx t (L ++ [v]) z (fun s => F s * y.States.toNat + G s) := by
 refine ⟨fun s l o c hs ho he => ?_, fun s hs hg q hq hm => ?_⟩
 ·obtain ⟨u, k, u', k', e1, e2, e3, rfl⟩ := (QiN hx.v hy.v hz).1 he
  have hu' := ((Qb7 y hy.v).rng u' l k' e2).1
  obtain ⟨rfl, rfl⟩ := QnH (hy.r s hs) hu' e3
  obtain ⟨s1, p1, p2, p3⟩ := ex.bw s l o k hs ho e1
  obtain ⟨s2, q1, q2, q3⟩ := ey.bw s l o k' hs ho e2
  obtain ⟨b, hb, hb0, hb1⟩ := q1.at h0 h1
  have hok : StateOK t.Vars (s1.set v.toNat b) := p1.set hb0 hb1
  have hlen := p1.len
  have hset : (s1.set v.toNat b)[v.toNat]? = some b := by rw [List.getElem?_set_self (by omega)]
  have hoth : ∀ w ∈ L, (s1.set v.toNat b)[w.toNat]? = s1[w.toNat]? := by
   intro w hw
   rw [List.getElem?_set_ne]
   intro e
   have := hL w hw
   exact hvL ((show v = w by omega) ▸ hw)
  have eF : F (s1.set v.toNat b) = k := by rw [hx.d _ s1 hok p1 hoth, p2]
  have eG : G (s1.set v.toNat b) = k' := by
   rw [hy.d _ s2 hok q1 (by intro w hw; simp only [List.mem_singleton] at hw; subst hw; rw [hset, hb]), q2]
  refine ⟨s1.set v.toNat b, hok, by simp only [eF, eG], fun w hw a b' ha hb' => ?_⟩
  rcases List.mem_append.1 hw with hw | hw
  ·rw [hoth w hw] at hb'
   exact p3 w hw a b' ha hb'
  ·simp only [List.mem_singleton] at hw
   subst hw
   rw [hset] at hb'
   cases hb'
   exact q3 w (by simp) a b ha hb
 ·obtain ⟨g1, g2⟩ := (QiM hx.v hy.v hz (hx.r s hs) (hy.r s hs)).1 hg
  rcases List.mem_append.1 hm with hm | hm
  ·exact ex.gl s hs g1 q hq hm
  ·exact ey.gl s hs g2 q hq hm
/-! ### distances -/
theorem Qms (ht : SmallT t) (hx : CAbs t L x F) {i : Nat} {c : Int} (h : Reach (BA t) (Qd6 t) i c) : ∀ s, StateOK t.Vars s → rk t.Vars s = (i : Int) → Reach (Kz x true) (Qd5 x) (F s) c := by
 have hv1 : ∀ n ∈ t.Vars, 1 ≤ n := fun n hn => (ht.g.v n hn).1
 induction h with
 | base hs =>
  intro s hsok hr
  obtain ⟨s', hs', h1, h2⟩ := hs
  have := Qnm hv1 hs' hsok (by rw [h1, hr])
  subst this
  exact .base (hx.g s' hsok fun q hq _ => h2 q hq)
 | step _ ha ih =>
  intro s hsok hr
  obtain ⟨s', l, o, hs', ho, hp, rfl, h1, h2⟩ := ha
  have := Qnm hv1 hs' hsok (by rw [h2, hr])
  subst this
  refine .step (ih _ (QeZ ht.g ho hs') h1) ⟨_, hx.f s' l o hs' ho hp, l, Z, ?_, ?_⟩
  ·rw [hx.c, List.getElem?_map, ho]; rfl
  ·simp
theorem QnJ (ht : SmallT t) (hown : QmW t) {l : Nat} {o : Op} (ho : t.Ops[l]? = some o) {s s' : List Int} (hs : StateOK t.Vars s) (hs' : StateOK t.Vars s') (hst : ∀ w : Nat, w < t.Vars.length → ∀ a b, s[w]? = some a → s'[w]? = some b → TB t o (w : Int) a b) : Ki o.Pre s ∧ JF o.Effs s = s' := by
 have hom := List.mem_of_getElem? ho
 have hop := ht.g.op o hom
 have haok := QeZ ht.g ho hs
 constructor
 ·intro f hf
  have hr := hop.pre.r f hf
  obtain ⟨a, ha, _⟩ := hs.at hr.1 hr.2.1
  obtain ⟨b, hb, _⟩ := hs'.at hr.1 hr.2.1
  obtain ⟨σ, s1, s2, s3, _⟩ := hst f.Var.toNat (by have := hr.1; have := hr.2.1; omega) a b ha hb
  have := s3 f hf
  rw [Int.toNat_natCast] at s2
  rw [s2] at this
  rw [ha, this]
 ·apply List.ext_getElem?
  intro w
  by_cases hw : w < t.Vars.length
  ·have hat := QeD hs (v := (w : Int)) (by omega) (by omega) (effs := o.Effs) fun e he => (hop.eff e he).2
   rw [Int.toNat_natCast] at hat
   obtain ⟨a, ha⟩ := Qt (xs := s) (i := w) (by rw [hs.len]; exact hw)
   obtain ⟨b, hb⟩ := Qt (xs := s') (i := w) (by rw [hs'.len]; exact hw)
   obtain ⟨σ, s1, s2, s3, s4⟩ := hst w hw a b ha hb
   rw [Int.toNat_natCast] at s2
   rw [hat, hb, s4]
   congr 1
   refine QhS (by rw [Int.toNat_natCast, ha, s2]) fun e he hev => ?_
   have hsame : ∀ f ∈ e.When, s[f.Var.toNat]? = σ[f.Var.toNat]? := by
    intro f hf
    rw [hown o hom e he f hf, hev, Int.toNat_natCast, ha, s2]
   constructor
   ·intro h f hf; rw [← hsame f hf]; exact h f hf
   ·intro h f hf; rw [hsame f hf]; exact h f hf
  ·rw [List.getElem?_eq_none (by rw [haok.len]; omega), List.getElem?_eq_none (by rw [hs'.len]; omega)]
theorem Qkv (ht : SmallT t) (hx : CAbs t L x F) {d k : List Int} (hd : SP (Kz x true) (Qd5 x) x.States.toNat d) (hk : SP (BA t) (Qd6 t) (JW t.Vars).toNat k) {s : List Int} (hs : StateOK t.Vars s) :
  ∃ a b, d[F s]? = some a ∧ k[(rk t.Vars s).toNat]? = some b ∧ 0 ≤ a ∧ a ≤ b ∧ ((∀ c, Reach (Kz x true) (Qd5 x) (F s) c → Reach (BA t) (Qd6 t) (rk t.Vars s).toNat c) → a = b) := by
 have hv1 : ∀ n ∈ t.Vars, 1 ≤ n := fun n hn => (ht.g.v n hn).1
 have hr := Qef hv1 hs
 obtain ⟨a, ha⟩ := Qt (xs := d) (i := F s) (by rw [hd.len]; exact hx.r s hs)
 obtain ⟨b, hb⟩ := Qt (xs := k) (i := (rk t.Vars s).toNat) (by rw [hk.len]; omega)
 have ra := hd.rng _ a ha
 have rb := hk.rng _ b hb
 have hAx : AOK (Kz x true) (Qd5 x) x.States.toNat := hx.v.ws.aok true fun i hi => by
  have := (List.getElem?_eq_some_iff.1 hi).1
  have := hx.v.g
  omega
 have hle : a ≤ b := by
  by_cases hlt : b < Inf
  ·obtain ⟨z, hz, hzl⟩ := hd.le hAx (Qms ht hx (hk.re _ b hb hlt) s hs (by omega)) hlt
   rw [ha] at hz; cases hz; exact hzl
  ·omega
 refine ⟨a, b, ha, hb, ra.1, hle, fun hconc => ?_⟩
 have hge : b ≤ a := by
  by_cases hlt : a < Inf
  ·obtain ⟨z, hz, hzl⟩ := hk.le (Qjn ht) (hconc _ (hd.re _ a ha hlt)) hlt
   rw [hb] at hz; cases hz; exact hzl
  ·omega
 omega
end
end Go.Pw
/- -/
set_option maxHeartbeats 4000000
namespace Go.Pw
def idL (n : Nat) : List Int := (List.range n).map fun (i : Nat) => (i : Int)
theorem Qjz (n : Nat) : (idL n).length = n := by simp [idL]
theorem QlK {n i : Nat} (h : i < n) : (idL n)[i]? = some (i : Int) := by simp [idL, h]
theorem QlD {n : Nat} (h : n ≤ 1000000) : Ko (n : Int) = some (idL n) := by
 refine Ok.eq ?_
 unfold Ko
 rw [QbS (by omega) (by omega)]
 simp only [Option.bind_some]
 refine Ok.bind (QQ (fun j (l : List Int) => l.length = n ∧ ∀ i, i < j → l[i]? = some (i : Int)) ⟨by simp, fun i hi => absurd hi (Nat.not_lt_zero i)⟩ ?_ ?_)
 ·rintro j l hj ⟨h1, h2⟩
  rw [List.length_replicate] at hj
  obtain ⟨y, hy⟩ := Qt (xs := l) (i := j) (by omega)
  simp only [Qo, hy, Option.bind_some]
  rw [QW (by omega)]
  refine Ok.ret ⟨by simp [h1], fun i hi => ?_⟩
  by_cases e : i = j
  ·subst e; rw [List.getElem?_set_self (by omega)]
  ·rw [List.getElem?_set_ne (Ne.symm e)]; exact h2 i (by omega)
 ·rintro l ⟨h1, h2⟩
  rw [List.length_replicate] at h2
  refine Ok.ret ?_
  apply List.ext_getElem?
  intro i
  by_cases hi : i < n
  ·rw [h2 i hi, QlK hi]
  ·rw [List.getElem?_eq_none (by omega), List.getElem?_eq_none (by rw [Qjz]; omega)]
theorem QoE {x : System} {c : List Int} {K : Nat} (hK : 2 ≤ K) (hK2 : K ≤ 4000000) : ∃ i k, PickOr (QbA x c) K i k := by
 obtain ⟨r, _, i, k, _, h⟩ := QlG (goals := (List.range K).map (QbA x c)) (g := QbA x c) (by simp) (fun b hb => by simp [hb]) hK hK2
 exact ⟨i, k, h⟩
theorem KOK.it {x : System} {n : Nat} (hn : n ≤ 4000000) : ∀ (j : Nat) {c : List Int} {K : Nat}, KOK c n K → j + 1 ≤ K → KOK (itM x j c K) n (K - j)
 | 0, c, K, h, _ => h
 | j + 1, c, K, h, hj => by
  have hle := h.le
  obtain ⟨i, k, hp⟩ := QoE (x := x) (c := c) (K := K) (by omega) (by omega)
  have hl := hp.lt (by omega)
  have h1 : KOK (Ql2 x c K) n (K - 1) := by
   unfold Ql2
   rw [Qpj hp]
   exact h.join hl.1 hl.2
  have := KOK.it (x := x) hn j h1 (by omega)
  have e : K - 1 - j = K - (j + 1) := by omega
  rw [e] at this
  exact this
theorem QiW {c : List Int} {n K : Nat} (h : KOK c n K) (hn : 0 < n) (hn2 : n ≤ 4000000) : Jj c = some (K : Int) := by
 unfold Jj
 have := h.le
 rw [Qno h hn hn2]
 simp only [Option.bind_some]
 rw [QD (by omega) (by omega)]
 congr 1; omega
section
variable {t : Task} {x : System} {F : List Int → Nat} {L : List Int}
structure SmRes (t : Task) (L : List Int) (x : System) (F : List Int → Nat) (ex : Bool) (most : Int) (c : List Int) (y : System) (ex' : Bool) (G : List Int → Nat) : Prop where
 i : CInv t L y G
 g : ∀ s, StateOK t.Vars s → Q9 c (F s : Int) = some (G s : Int)
 e : ex' = true → ex = true
 xx : CEx t L x F → ex' = true → CEx t L y G
 m : y.States ≤ max 1 most
 s : y.States ≤ x.States
 n : x.States ≤ most → y = x ∧ ex' = ex ∧ c = idL x.States.toNat
theorem Qgi {most : Int} (h : CInv t L x F) (hs : x.States ≤ most ∨ x.States ≤ 100) (hx9 : x.States ≤ 4096) (hl : x.Costs.length ≤ 100) (a : mergeshrink_Abstraction) :
  Ok (QG a x most) fun r => r.2.1 = none ∧ ∃ G, SmRes t L x F a.exact most r.1 r.2.2.1 r.2.2.2 G := by
 have hv := h.v
 have s1 := hv.s1
 unfold QG
 by_cases hle : x.States ≤ most
 ·simp only [hle, decide_true, if_true]
  obtain ⟨n, hn⟩ : ∃ n : Nat, x.States = (n : Int) := ⟨x.States.toNat, by omega⟩
  rw [hn, QlD (by omega)]
  simp only [Option.bind_some]
  refine Ok.ret ⟨Z, F, h, fun s hs => ?_, id, fun h _ => h, (by simp only; omega), Int.le_refl _, fun _ => ⟨Z, Z, ?_⟩⟩
  ·have := h.r s hs
   rw [Qo, QlK (by omega)]
  ·rw [hn]; simp
 ·have hs : x.States ≤ 100 := hs.resolve_left hle
  simp only [hle, decide_false, Bool.false_eq_true, if_false]
  refine Ok.bind ((QnO hv hs hl most).mono ?_)
  rintro ⟨c, e⟩ ⟨h1, c0, hb, hc⟩
  simp only at h1 hc
  subst h1
  simp only [QI, Option.isSome_none, Bool.false_eq_true, if_false]
  refine Ok.bind ((Qky hv hs hl).mono ?_)
  rintro ⟨c1, e1⟩ ⟨h2, hb1⟩
  simp only at h2 hb1
  subst h2
  obtain rfl := hb.uniq hb1
  have hk0 : KOK c0 x.States.toNat (rnk (eqL c0) x.States.toNat) := hb.kok
  generalize rnk (eqL c0) x.States.toNat = K0 at hk0 hc
  obtain ⟨m, hm, hm1⟩ := Qkp most
  rw [hm, show ((m : Int)).toNat = m by omega] at hc
  have hK1 : 1 ≤ K0 := by obtain ⟨k, h, _⟩ := hk0.rng 0 (by omega); omega
  have hkc := KOK.it (x := x) (by omega) (K0 - m) hk0 (by omega)
  rw [← hc] at hkc
  have hle0 := hk0.le
  simp only [QI, Option.isSome_none, Bool.false_eq_true, if_false]
  have hz : ∃ z, (if a.exact = true then ((Jj c).bind fun y105 => (Jj c0).bind fun y106 => some (decide (y105 = y106))) else some false) = some z ∧ (z = true → a.exact = true ∧ K0 - m = 0) := by
   by_cases hx : a.exact = true
   ·rw [if_pos hx, QiW hkc (by omega) (by omega), QiW hk0 (by omega) (by omega)]
    refine ⟨_, Z, fun hd => ⟨hx, ?_⟩⟩
    simp only [decide_eq_true_eq] at hd
    omega
   ·rw [if_neg hx]
    exact ⟨_, Z, fun h => by cases h⟩
  obtain ⟨z, hz1, hz2⟩ := hz
  rw [hz1]
  simp only [Option.bind_some]
  refine Ok.bind ((QoB hv hkc).mono ?_)
  rintro ⟨e, y⟩ ⟨h3, hq⟩
  simp only at h3 hq
  subst h3
  have hcl := hkc.clsOf
  have hys := hq.s
  refine Ok.ret ⟨Z, _, Qm9 h hkc hq, fun s hs => ?_, fun hz => (hz2 hz).1, fun hx hz => ?_, ?_, ?_, fun h => absurd h hle⟩
  ·rw [Qo]; exact (hcl.get (h.r s hs)).1
  ·have h0 := (hz2 hz).2
   rw [h0] at hc
   simp only [itM] at hc
   subst hc
   exact Qoj h hx hkc hq hb
  ·simp only; omega
  ·simp only; omega
end
end Go.Pw
/- -/
set_option maxHeartbeats 4000000
namespace Go.Pw
theorem Qo9 {n : Int} (h0 : 1 ≤ n) (h1 : n ≤ 4096) : Ok (KN n) fun r => 1 ≤ r ∧ r * r ≤ n := by
 unfold KN
 refine Yu (fun r => 0 ≤ r ∧ r ≤ 64 ∧ r * r ≤ n) (fun r => 1 ≤ r ∧ r * r ≤ n) (fun _ => False) (fun r => (64 - r).toNat) ⟨by omega, by omega, by omega⟩ ?_ (fun _ h => h.elim) (fun s h => Ok.ret h)
 rintro r ⟨a, b, c⟩
 have hb : (r + 1) * (r + 1) ≤ 65 * 65 := Int.mul_le_mul (by omega) (by omega) (by omega) (by omega)
 have hp : 0 ≤ (r + 1) * (r + 1) := Int.mul_nonneg (by omega) (by omega)
 have w1 : IntKind.i64.wrap (r + 1) = r + 1 := QD (by omega) (by omega)
 rw [w1, QD (by omega) (by omega)]
 by_cases hl : (r + 1) * (r + 1) ≤ n
 ·simp only [hl, decide_true, if_true]
  have hr : r + 1 ≤ 64 := by
   rcases Int.lt_or_le (r + 1) 65 with h | h
   ·omega
   ·have : 65 * 65 ≤ (r + 1) * (r + 1) := Int.mul_le_mul h h (by omega) (by omega)
    omega
  exact ⟨_, Z, fun s' e => by cases e; exact ⟨⟨by omega, by omega, hl⟩, by omega⟩, fun s' e => (by cases e), fun r e => (by cases e)⟩
 ·simp only [hl, decide_false, Bool.false_eq_true, if_false]
  refine ⟨_, Z, fun s' e => (by cases e), fun s' e => ?_, fun r e => (by cases e)⟩
  cases e
  refine ⟨?_, c⟩
  rcases Int.lt_or_le 0 r with h | h
  ·omega
  ·have : r = 0 := by omega
   subst this
   omega
def stV (s : List Int) (i : Nat) (st : mergeshrink_stage) (a : Int) : Option Int :=
 (Q9 s st.variable_).bind fun x => (Q9 st.class_ x).bind fun c =>
 if decide ((i : Int) = 0) then some c else (Q9 st.after a).bind fun b => some (IntKind.i64.wrap ((IntKind.i64.wrap (b * st.states)) + c))
def vf (s : List Int) : Nat → List mergeshrink_stage → Int → Option Int
 | _, [], a => some a
 | i, st :: l, a => (stV s i st a).bind (vf s (i + 1) l)
theorem QgU (s : List Int) (st : mergeshrink_stage) : ∀ (l : List mergeshrink_stage) (i : Nat) (a : Int), vf s i (l ++ [st]) a = (vf s i l a).bind (stV s (i + l.length) st)
 | [], i, a => by
  simp only [List.nil_append, vf, List.length_nil, Nat.add_zero, Option.bind_some]
  cases stV s i st a <;> rfl
 | u :: l, i, a => by
  simp only [List.cons_append, vf, List.length_cons]
  cases stV s i u a with
  | none => rfl
  | some b => simp only [Option.bind_some]; rw [QgU s st l (i + 1) b, show i + 1 + l.length = i + (l.length + 1) by omega]
def VOK (t : Task) (zs : List mergeshrink_stage) (F : List Int → Nat) : Prop := ∀ s, StateOK t.Vars s → vf s 0 zs 0 = some (F s : Int)
theorem Qn5 {a : mergeshrink_Abstraction} {s : List Int} {k : Nat} {d : Int} (hs : StateOK a.vars s) (hv : vf s 0 a.stages 0 = some (k : Int)) (hd : a.distance[k]? = some d) : Qk a s = some d := by
 classical
 have hp : KY a.vars s = some (decide (StateOK a.vars s)) := Qhq a.vars s
 refine Ok.eq ?_
 unfold Qk
 rw [hp]
 simp only [hs, decide_true, Option.bind_some, Bool.not_true, Bool.false_eq_true, if_false]
 refine Ok.bind (QQ (fun i (b : Int) => vf s 0 (a.stages.take i) 0 = some b) Z ?_ ?_)
 ·intro i b hi h
  obtain ⟨st, hst⟩ := Qt (xs := a.stages) (i := i) hi
  have hsn := Q6 hst
  have hall : a.stages = a.stages.take (i + 1) ++ a.stages.drop (i + 1) := (List.take_append_drop _ _).symm
  have hstep : ∃ y, stV s i st b = some y := by
   have h2 : vf s 0 (a.stages.take (i + 1)) 0 ≠ none := by
    intro hno
    have : ∀ (l k : List mergeshrink_stage) (j : Nat) (b : Int), vf s j l b = none → vf s j (l ++ k) b = none := by
     intro l
     induction l with
     | nil => intro k j b h; simp [vf] at h
     | cons u l ih =>
      intro k j b h
      simp only [List.cons_append, vf] at h ⊢
      cases hu : stV s j u b with
      | none => rfl
      | some y => rw [hu] at h; simp only [Option.bind_some] at h ⊢; exact ih k (j + 1) y h
    have := this _ (a.stages.drop (i + 1)) 0 0 hno
    rw [← hall, hv] at this
    cases this
   rw [hsn, QgU, h] at h2
   simp only [Option.bind_some, List.length_take, Nat.zero_add, Nat.min_eq_left (Nat.le_of_lt hi)] at h2
   exact Option.ne_none_iff_exists'.1 h2
  obtain ⟨y, hy⟩ := hstep
  refine ⟨y, ?_, ?_⟩
  ·rw [Qo, hst]
   simp only [Option.bind_some]
   rw [← hy]
   unfold stV
   cases Q9 s st.variable_ with
   | none => rfl
   | some x =>
    simp only [Option.bind_some]
    cases Q9 st.class_ x with
    | none => rfl
    | some c =>
     simp only [Option.bind_some]
     split
     ·rfl
     ·cases Q9 st.after b <;> rfl
  ·rw [hsn, QgU, h]
   simp only [Option.bind_some, List.length_take, Nat.zero_add, Nat.min_eq_left (Nat.le_of_lt hi)]
   exact hy
 ·intro b h
  rw [List.take_length, hv] at h
  obtain rfl := Zu h
  rw [Qo, hd]
  exact Ok.ret Z
end Go.Pw
/- -/
set_option maxHeartbeats 8000000
namespace Go.Pw
theorem caps {X y most root : Int} (hX : 1 ≤ X) (hX2 : X ≤ 256) (hy : 1 ≤ y) (hy2 : y ≤ 64) (hm : 1 ≤ most) (hm2 : most ≤ 4096) (hr : 1 ≤ root) (hr2 : root * root ≤ most) :
  Ok ((if decide (most < (IntKind.i64.wrap (X * y))) then ((if decide (X ≤ root) then ((must (!decide (X = 0))).bind fun u100 => some (X, IntKind.i64.wrap (most.tdiv X)))
   else ((if decide (y ≤ root) then ((must (!decide (y = 0))).bind fun u101 => some (IntKind.i64.wrap (most.tdiv y), y)) else (some (root, root))).bind (QI fun (left100 : Int) (right100 : Int) => some (left100, right100)))).bind (QI fun (left101 : Int) (right101 : Int) => some (left101, right101)))
   else (some (X, y)))) fun r => 1 ≤ r.1 ∧ 1 ≤ r.2 ∧ r.1 * r.2 ≤ most ∧ (X * y ≤ most → r.1 = X ∧ r.2 = y) := by
 have hb : X * y ≤ 256 * 64 := Int.mul_le_mul hX2 hy2 (by omega) (by omega)
 have hp : 0 ≤ X * y := Int.mul_nonneg (by omega) (by omega)
 have hrm : root ≤ root * root := by
  have := Int.mul_le_mul_of_nonneg_left hr (show 0 ≤ root by omega)
  omega
 have dv : ∀ q : Int, 1 ≤ q → q ≤ root → 1 ≤ most.tdiv q ∧ q * most.tdiv q ≤ most ∧ most.tdiv q ≤ most := by
  intro q h1 h2
  rw [Int.tdiv_eq_ediv_of_nonneg (by omega)]
  have e := Int.mul_ediv_add_emod most q
  have e1 := Int.emod_nonneg most (show q ≠ 0 by omega)
  have e2 := Int.emod_lt_of_pos most (show 0 < q by omega)
  have h3 : 1 ≤ most / q := (Int.le_ediv_iff_mul_le (by omega)).2 (by omega)
  have h4 := Int.ediv_le_self q (show 0 ≤ most by omega)
  exact ⟨h3, by omega, h4⟩
 rw [QD (show -9223372036854775808 ≤ X * y by omega) (by omega)]
 by_cases h : most < X * y
 ·simp only [h, decide_true, if_true]
  by_cases h1 : X ≤ root
  ·obtain ⟨d1, d2, d3⟩ := dv X hX h1
   simp only [h1, decide_true, if_true, must, show ¬ X = 0 by omega, decide_false, Bool.not_false, Option.bind_some, QI]
   rw [QD (by omega) (by omega)]
   exact Ok.ret ⟨hX, d1, d2, fun h' => by omega⟩
  ·simp only [h1, decide_false, Bool.false_eq_true, if_false]
   by_cases h2 : y ≤ root
   ·obtain ⟨d1, d2, d3⟩ := dv y hy h2
    simp only [h2, decide_true, if_true, must, show ¬ y = 0 by omega, decide_false, Bool.not_false, Option.bind_some, QI]
    rw [QD (by omega) (by omega)]
    exact Ok.ret ⟨d1, hy, by simp only; rw [Int.mul_comm]; exact d2, fun h' => by omega⟩
   ·simp only [h2, decide_false, Bool.false_eq_true, if_false, Option.bind_some, QI]
    exact Ok.ret ⟨hr, hr, hr2, fun h' => by omega⟩
 ·simp only [h, decide_false, Bool.false_eq_true, if_false]
  exact Ok.ret ⟨hX, hy, by simp only; omega, fun _ => ⟨Z, Z⟩⟩
end Go.Pw
/- -/
set_option maxHeartbeats 8000000
namespace Go.Pw
structure CRes (t : Task) (L : List Int) (most : Int) (zs : List mergeshrink_stage) (ex : Bool) (x : System) (F : List Int → Nat) : Prop where
 i : CInv t L x F
 v : VOK t zs F
 n : zs.length = L.length
 e : ex = true → CEx t L x F
 m : x.States ≤ most
 f : JW t.Vars ≤ most → ex = true ∧ x.States = Qb6 t L
abbrev CSt := List mergeshrink_stage × Bool × Int × Int × List Int × List Edge × List Bool
def QjV (st : CSt) : System := ⟨st.2.2.1, st.2.2.2.1, st.2.2.2.2.1, st.2.2.2.2.2.1, st.2.2.2.2.2.2⟩
structure OrdOK (t : Task) (order : List Int) : Prop where
 d : order.Nodup
 r : ∀ w ∈ order, 0 ≤ w ∧ w < (t.Vars.length : Int)
theorem Qlc {l : List Int} (h : l.Nodup) {i : Nat} {v : Int} (hv : l[i]? = some v) : (l.take i ++ [v]).Nodup := by
 rw [← Q6 hv]
 exact h.sublist (List.take_sublist _ _)
theorem QlJ {t : Task} {v : Int} {s : List Int} (hs : StateOK t.Vars s) (h0 : 0 ≤ v) (h1 : v < (t.Vars.length : Int)) : Q9 s v = some (QgG v s : Int) := by
 unfold Q9
 rw [if_pos h0]
 exact (QdA hs h0 h1).1
theorem Qk5 {t : Task} {v : Int} {y : System} {most : Int} {c : List Int} {ex : Bool} {G : List Int → Nat} {zy : System} {ex0 : Bool} (h0 : 0 ≤ v) (h1 : v < (t.Vars.length : Int)) (hy : AtomRes t v y) (hp : JW t.Vars ≤ 256) (ht : SmallT t) (hm : 1 ≤ most) (he0 : ex0 = true)
  (hr : SmRes t [v] y (QgG v) ex0 most c zy ex G) : CRes t [v] most [⟨v, c, [], zy.States⟩] ex zy G := by
 have hd := Y6 ht.g.v h0 h1
 have hpd : Qb6 t [v] ≤ JW t.Vars := Qct ht.g.v (by simp) (by simpa using ⟨h0, h1⟩)
 rw [Qbh] at hpd
 refine ⟨hr.i, fun s hs => ?_, Z, fun h => hr.xx (Qgo ht h0 h1 hy).2 h, by have := hr.m; omega, fun hle => ?_⟩
 ·simp only [vf, stV, QlJ hs h0 h1, Option.bind_some, hr.g s hs]
  simp
 ·obtain ⟨e1, e2, e3⟩ := hr.n (by rw [hy.s]; omega)
  subst e1; subst e2; subst e3
  exact ⟨he0, by rw [Qbh]; exact hy.s⟩
theorem Qle {t : Task} {L : List Int} {v : Int} {x y x' y' z : System} {most left right : Int} {c1 c2 : List Int} {ex ex1 ex2 : Bool} {F G1 G2 : List Int → Nat} {zs : List mergeshrink_stage} (hL0 : L ≠ []) (hLr : ∀ w ∈ L, 0 ≤ w ∧ w < (t.Vars.length : Int)) (hvL : v ∉ L) (hLn : (L ++ [v]).Nodup) (h0 : 0 ≤ v) (h1 : v < (t.Vars.length : Int)) (hp : JW t.Vars ≤ 256) (ht : SmallT t)
  (hx : CRes t L most zs ex x F) (hy : AtomRes t v y) (l1 : 1 ≤ left) (r1 : 1 ≤ right) (hlr : left * right ≤ most) (hlx : x.States * y.States ≤ most → left = x.States ∧ right = y.States)
  (hr1 : SmRes t L x F ex left c1 x' ex1 G1) (hr2 : SmRes t [v] y (QgG v) ex1 right c2 y' ex2 G2) (hz : ProdRes x' y' z) (hs : x'.States * y'.States ≤ 4096) (hl : z.Edges.length ≤ 65536) :
  CRes t (L ++ [v]) most (zs ++ [⟨v, c2, c1, y'.States⟩]) ex2 z (fun s => G1 s * y'.States.toNat + G2 s) := by
 have hd := Y6 ht.g.v h0 h1
 have hca := Qgo ht h0 h1 hy
 have s1 := hr1.i.v.s1
 have s2 := hr2.i.v.s1
 have hpd : Qb6 t (L ++ [v]) ≤ JW t.Vars := Qct ht.g.v hLn fun w hw => by
  rcases List.mem_append.1 hw with h | h
  ·exact hLr w h
  ·simp at h; subst h; exact ⟨h0, h1⟩
 have hpv : Qb6 t (L ++ [v]) = Qb6 t L * Ka t.Vars v := by rw [QbY, Qbh]
 have hpL := Qf3 ht.g hLr
 have hxn := hx.i.n
 have b1 : x'.States ≤ 256 := by
  have := hr1.s
  have : Qb6 t L ≤ Qb6 t L * Ka t.Vars v := by
   have := Int.mul_le_mul_of_nonneg_left hd.1 (show 0 ≤ Qb6 t L by omega)
   omega
  omega
 have b2 : y'.States ≤ 64 := by have := hr2.s; have := hy.s; omega
 have hcx := QmA ht hLr h0 h1 hr1.i hr2.i hz hs hl
 refine ⟨hcx, fun s hs => ?_, by simp [hx.n], fun h => ?_, ?_, fun hle => ?_⟩
 ·rw [QgU, hx.v s hs]
  have hne : ¬ ((0 + zs.length : Nat) : Int) = 0 := by
   have : 0 < L.length := List.length_pos_iff.2 hL0
   have := hx.n
   omega
  simp only [Option.bind_some, stV, QlJ hs h0 h1, hr2.g s hs, hne, decide_false, Bool.false_eq_true, if_false, hr1.g s hs]
  have a1 := hr1.i.r s hs
  have a2 := hr2.i.r s hs
  have hb : (G1 s : Int) * y'.States ≤ 256 * 64 := Int.mul_le_mul (by omega) b2 (by omega) (by omega)
  have hb0 : 0 ≤ (G1 s : Int) * y'.States := Int.mul_nonneg (by omega) (by omega)
  rw [QD (show -9223372036854775808 ≤ (G1 s : Int) * y'.States by omega) (by omega), QD (by omega) (by omega)]
  have e : y'.States = (y'.States.toNat : Int) := by omega
  rw [e]
  simp
 ·have e1 := hr2.e h
  have e0 := hr1.e e1
  exact Qok ht hLr h0 h1 hvL hr1.i hr2.i hz (hr1.xx (hx.e e0) e1) (hr2.xx hca.2 h)
 ·rw [hz.s]
  have := hr1.m
  have := hr2.m
  have : x'.States * y'.States ≤ left * right := Int.mul_le_mul (by omega) (by omega) (by omega) (by omega)
  omega
 ·obtain ⟨f1, f2⟩ := hx.f hle
  have hxy : x.States * y.States ≤ most := by rw [f2, hy.s, ← hpv]; omega
  obtain ⟨rfl, rfl⟩ := hlx hxy
  obtain ⟨e1, e2, e3⟩ := hr1.n (Int.le_refl _)
  obtain ⟨e4, e5, e6⟩ := hr2.n (Int.le_refl _)
  subst e1; subst e2; subst e3; subst e4; subst e5; subst e6
  exact ⟨f1, by rw [hz.s, f2, hy.s, hpv]⟩
theorem Qo8 {t : Task} {L : List Int} {v : Int} {x y : System} {F G : List Int → Nat} (ht : SmallT t) (hc3 : ∀ o ∈ t.Ops, (cE o).length ≤ 3) (hp : JW t.Vars ≤ 256) (hLr : ∀ w ∈ L, 0 ≤ w ∧ w < (t.Vars.length : Int)) (hLn : (L ++ [v]).Nodup) (h0 : 0 ≤ v) (h1 : v < (t.Vars.length : Int)) (hx : CInv t L x F) (hy : CInv t [v] y G) {l : Nat} (hl : l < x.Costs.length) :
  (J0 x l).length * (J0 y l).length ≤ 2048 := by
 have hcl : x.Costs.length = t.Ops.length := by rw [hx.c, List.length_map]
 obtain ⟨o, ho⟩ := Qt (xs := t.Ops) (i := l) (by omega)
 have hd := Y6 ht.g.v h0 h1
 have hpL := Qf3 ht.g hLr
 have hpd : Qb6 t (L ++ [v]) ≤ JW t.Vars := Qct ht.g.v hLn fun w hw => by
  rcases List.mem_append.1 hw with h | h
  ·exact hLr w h
  ·simp at h; subst h; exact ⟨h0, h1⟩
 have hpv : Qb6 t (L ++ [v]) = Qb6 t L * Ka t.Vars v := by rw [QbY, Qbh]
 refine ((hx.b l o ho).mul (hy.b l o ho)).top ?_ ?_
 ·rw [← QgE]
  exact Nat.le_trans (QoQ o hLn) (hc3 o (List.mem_of_getElem? ho))
 ·rw [Qbh]
  have e : (Qb6 t L * Ka t.Vars v).toNat = (Qb6 t L).toNat * (Ka t.Vars v).toNat := Int.toNat_mul (by omega) (by omega)
  rw [← e, ← hpv]
  omega
end Go.Pw
/- -/
set_option maxHeartbeats 8000000
namespace Go.Pw
def LI (t : Task) (order : List Int) (most : Int) (i : Nat) (st : CSt) : Prop := (i = 0 → st.1 = [] ∧ st.2.1 = true) ∧ (0 < i → ∃ F, CRes t (order.take i) most st.1 st.2.1 (QjV st) F)
theorem QeA {t : Task} (ht : GoodT t) : ∀ o ∈ t.Ops, o.Name.size ≤ 9223372036854775807 := fun o ho => by have := (ht.op o ho).nm; omega
theorem QjF {t : Task} (ht : SmallT t) (hp : JW t.Vars ≤ 256) (hc3 : ∀ o ∈ t.Ops, (cE o).length ≤ 3) {order : List Int} (ho : OrdOK t order) (hne : 0 < order.length) {most : Int} (hm : 1 ≤ most) (hm2 : most ≤ 4096) (hms : JW t.Vars ≤ most ∨ most ≤ 100) (vars : List Int) :
  Ok (QE ⟨vars, [], [], true⟩ t order most) fun r => r.1 = none ∧ ∃ F, CRes t order most r.2.2.1 r.2.2.2 r.2.1 F := by
 have hn := QeA ht.g
 unfold QE
 have hz : ¬ (order.length : Int) = 0 := by omega
 simp only [hz, decide_false, Bool.false_eq_true, if_false]
 obtain ⟨root, hroot, hr1, hr2⟩ := Qo9 hm hm2
 refine Ok.step hroot ?_
 refine Ok.ctl (LI t order most) (fun _ => False) ⟨fun _ => ⟨Z, Z⟩, fun h => absurd h (Nat.lt_irrefl _)⟩ ?_ (fun _ h => h.elim) ?_
 ·rintro i ⟨zs, ex, S, I, C, E, Gl⟩ hi ⟨hI0, hI1⟩
  simp only at hI0 hI1
  obtain ⟨v, hv⟩ := Qt hi
  have hvm := ho.r v (List.mem_of_getElem? hv)
  have h0 := hvm.1
  have h1 := hvm.2
  have hd := Y6 ht.g.v h0 h1
  have htk := Q6 hv
  have hnd := Qlc ho.d hv
  have hvL : v ∉ order.take i := by
   intro h
   have := (List.nodup_append.1 hnd).2.2 v h
   simp at this
  have hLr : ∀ w ∈ order.take i, 0 ≤ w ∧ w < (t.Vars.length : Int) := fun w hw => ho.r w (List.mem_of_mem_take hw)
  simp only [un7, Qo, hv, Option.bind_some]
  obtain ⟨⟨e, y⟩, hat, he, hy⟩ := QmD ht.g h0 h1 (ht.roomP ⟨by simp [h0, h1], by simp⟩)
  simp only at he hy
  subst he
  have hca := Qgo ht h0 h1 hy
  have hys := hy.s
  have hyc : y.Costs.length = t.Ops.length := by rw [hy.c, List.length_map]
  have hno := ht.no
  refine Ok.step hat ?_
  simp only [QI, Option.isSome_none, Bool.false_eq_true, if_false]
  by_cases hi0 : i = 0
  ·subst hi0
   obtain ⟨rfl, rfl⟩ := hI0 rfl
   simp only [Int.natCast_zero, decide_true, if_true]
   obtain ⟨⟨c, e, y', ex'⟩, hr, h2, G, hG⟩ := Qgi (most := most) hca.1 (.inr (by omega)) (by omega) (by omega) ⟨vars, [], [], true⟩
   simp only at h2 hG
   subst h2
   refine Ok.step hr ?_
   simp only [un4, Option.isSome_none, Bool.false_eq_true, if_false]
   rw [JB (by simp)]
   refine Ok.ret ⟨fun h => by omega, fun _ => ⟨G, ?_⟩⟩
   have := Qk5 h0 h1 hy hp ht hm rfl hG
   rw [htk]
   exact this
  ·simp only [show ¬ (i : Int) = 0 by omega, decide_false, Bool.false_eq_true, if_false]
   obtain ⟨F, hF⟩ := hI1 (by omega)
   have hX := hF.i.v.s1
   have hLne : order.take i ≠ [] := by
    intro h
    have := congrArg List.length h
    rw [List.length_take, Nat.min_eq_left (by omega)] at this
    simp only [List.length_nil] at this
    omega
   have hpL : Qb6 t (order.take i) ≤ JW t.Vars := Qct ht.g.v ((List.nodup_append.1 hnd).1) hLr
   have hXn := hF.i.n
   have hXc : (QjV (zs, ex, S, I, C, E, Gl)).Costs.length = t.Ops.length := by rw [hF.i.c, List.length_map]
   obtain ⟨⟨left, right⟩, hcap, l1, r1, hlr, hlx⟩ := caps (X := S) (y := y.States) (most := most) (root := root) hX (show S ≤ 256 by have : S ≤ Qb6 t (order.take i) := hXn; omega) (by omega) (by omega) hm hm2 hr1 hr2
   refine Ok.step hcap ?_
   simp only at l1 r1 hlr hlx
   have hSl : (QjV (zs, ex, S, I, C, E, Gl)).States ≤ left ∨ (QjV (zs, ex, S, I, C, E, Gl)).States ≤ 100 := by
    rcases hms with h | h
    ·left
     have hpd : Qb6 t (order.take i ++ [v]) ≤ JW t.Vars := Qct ht.g.v hnd fun w hw => by
      rcases List.mem_append.1 hw with h | h
      ·exact hLr w h
      ·simp at h; subst h; exact ⟨h0, h1⟩
     rw [QbY, Qbh] at hpd
     have : S * y.States ≤ Qb6 t (order.take i) * Ka t.Vars v := Int.mul_le_mul hXn (by omega) (by omega) (by have := Qf3 ht.g hLr; omega)
     have := (hlx (by omega)).1
     show S ≤ left
     omega
    ·right
     have := hF.m
     omega
   simp only [QI]
   obtain ⟨⟨c1, e, x', ex1⟩, hs1, h2, G1, hG1⟩ := Qgi (most := left) hF.i hSl (show S ≤ 4096 by have : S ≤ Qb6 t (order.take i) := hXn; omega) (by omega) ⟨vars, zs, [], ex⟩
   simp only at h2 hG1
   subst h2
   refine Ok.step hs1 ?_
   simp only [un4, Option.isSome_none, Bool.false_eq_true, if_false]
   obtain ⟨⟨c2, e, y', ex2⟩, hs2, h2, G2, hG2⟩ := Qgi (most := right) hca.1 (.inr (by omega)) (by omega) (by omega) ⟨vars, zs, [], ex1⟩
   simp only at h2 hG2
   subst h2
   refine Ok.step hs2 ?_
   simp only [un4, Option.isSome_none, Bool.false_eq_true, if_false]
   have hzl := hF.n
   have hol : (order.take i).length ≤ t.Vars.length := QbP ((List.nodup_append.1 hnd).1) hLr
   have hnv := ht.nv
   rw [JB (by simp; omega)]
   simp only [Option.bind_some]
   have hg1 := hG1.s
   have hg2 := hG2.s
   have q1 := hG1.i.v.s1
   have q2 := hG2.i.v.s1
   have hsx : (QjV (zs, ex, S, I, C, E, Gl)).States = S := rfl
   have hss : x'.States * y'.States ≤ 4096 := by
    have h1 : x'.States ≤ 256 := by omega
    have : x'.States * y'.States ≤ left * right := Int.mul_le_mul (by have := hG1.m; omega) (by have := hG2.m; omega) (by omega) (by omega)
    omega
   have hcc : x'.Costs = y'.Costs := by rw [hG1.i.c, hG2.i.c]
   have hxl : x'.Costs.length = t.Ops.length := by rw [hG1.i.c, List.length_map]
   refine Ok.bind (Ok.mono (Qk7 hG1.i.v hG2.i.v hcc hss (C := 2048) (fun l hl => Qo8 ht hc3 hp hLr hnd h0 h1 hG1.i hG2.i hl) (by omega)) ?_)
   rintro ⟨e, z⟩ ⟨h2, hz, hzE⟩
   simp only at h2 hz hzE
   subst h2
   simp only [QI, Option.isSome_none, Bool.false_eq_true, if_false]
   have := Qle hLne hLr hvL hnd h0 h1 hp ht hF hy l1 r1 hlr hlx hG1 hG2 hz hss (by omega)
   rw [← htk] at this
   exact Ok.ret ⟨fun h => by omega, fun _ => ⟨_, this⟩⟩
 ·rintro ⟨zs, ex, S, I, C, E, Gl⟩ ⟨_, hI1⟩
  simp only at hI1
  obtain ⟨F, hF⟩ := hI1 hne
  rw [List.take_length] at hF
  exact Ok.ret ⟨Z, F, hF⟩
end Go.Pw
