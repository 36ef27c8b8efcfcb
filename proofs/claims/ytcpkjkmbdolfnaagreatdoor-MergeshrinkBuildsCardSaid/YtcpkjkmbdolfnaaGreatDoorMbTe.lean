/- -/
import Derived.Test.YtcpkjkmbdolfnaaGreatDoorMbTb
import Derived.Test.YtcpkjkmbdolfnaaGreatDoorMbTd
import Derived.Test.YtcpkjkmbdolfnaaGreatDoorMbTa
import Derived.Test.YtcpkjkmbdolfnaaGreatDoorMbTc
set_option maxHeartbeats 4000000
set_option linter.unusedSimpArgs false
set_option linter.unusedVariables false
namespace Go.Pw
def QlH (t : Task) : Prop := ∀ o ∈ t.Ops, ∀ e ∈ o.Effs, ∀ f ∈ e.When, f.Var = e.Var
def Qge (o : Op) : List Int → Nat
 | [] => 0
 | v :: l => QiD o v + Qge o l
theorem QfD (o : Op) (l k : List Int) : Qge o (l ++ k) = Qge o l + Qge o k := by
 induction l with
 | nil => simp [Qge]
 | cons v l ih => simp only [List.cons_append, Qge, ih]; omega
theorem QfC (o : Op) : ∀ {l : List Int}, l.Nodup → Qge o l = (o.Effs.filter fun e => decide (e.Var ∈ l)).length
 | [], _ => by rw [List.filter_eq_nil_iff.2 (by simp)]; rfl
 | v :: l, h => by
  obtain ⟨h1, h2⟩ := List.nodup_cons.1 h
  rw [Qge, QfC o h2]
  unfold QiD
  induction o.Effs with
  | nil => simp
  | cons e r ih =>
   simp only [List.filter_cons, List.mem_cons]
   by_cases a : e.Var = v
   ·have b : e.Var ∉ l := by rw [a]; exact h1
    have b' : v ∉ l := h1
    simp only [a, b', true_or, decide_true, decide_false, if_true, Bool.false_eq_true, if_false, List.length_cons]
    simp only [List.mem_cons] at ih
    omega
   ·by_cases b : e.Var ∈ l
    ·simp only [a, b, false_or, decide_true, decide_false, if_true, Bool.false_eq_true, if_false, List.length_cons]
     simp only [List.mem_cons] at ih
     omega
    ·simp only [a, b, false_or, decide_false, Bool.false_eq_true, if_false]
     simp only [List.mem_cons] at ih
     exact ih
theorem Qnm (o : Op) {l : List Int} (h : l.Nodup) : Qge o l ≤ o.Effs.length := by
 rw [QfC o h]
 exact List.length_filter_le _ _
def YS (t : Task) (L : List Int) : Int := Ke (L.map (JO t.Vars))
theorem Qce (t : Task) (L K : List Int) : YS t (L ++ K) = YS t L * YS t K := by unfold YS; rw [List.map_append, QbL]
theorem Qbi (t : Task) (v : Int) : YS t [v] = JO t.Vars v := by simp [YS, Ke]
theorem Qgs {t : Task} (ht : GoodT t) {L : List Int} (hL : ∀ w ∈ L, 0 ≤ w ∧ w < (t.Vars.length : Int)) : 1 ≤ YS t L := by
 refine Qca fun x hx => ?_
 obtain ⟨w, hw, rfl⟩ := List.mem_map.1 hx
 exact (Kf ht.v (hL w hw).1 (hL w hw).2).1
def Qes (v : Int) (s : List Int) : Nat := (s[v.toNat]?.getD 0).toNat
structure CInv (t : Task) (L : List Int) (x : System) (F : List Int → Nat) : Prop where
 v : VSys x
 c : x.Costs = t.Ops.map fun o => o.Cost
 r : ∀ s, StateOK t.Vars s → F s < x.States.toNat
 d : ∀ s s', StateOK t.Vars s → StateOK t.Vars s' → (∀ w ∈ L, s[w.toNat]? = s'[w.toNat]?) → F s = F s'
 f : ∀ (s : List Int) (l : Nat) (o : Op), StateOK t.Vars s → t.Ops[l]? = some o → JD o.Pre s → Qap x (F s) l (F (JH o.Effs s))
 g : ∀ s, StateOK t.Vars s → (∀ q ∈ t.Goal, q.Var ∈ L → s[q.Var.toNat]? = some q.Val) → x.Goals[F s]? = some true
 b : ∀ (l : Nat) (o : Op), t.Ops[l]? = some o → EB (Jl x l).length (Qge o L) (YS t L).toNat
 n : x.States ≤ YS t L
structure CEx (t : Task) (L : List Int) (x : System) (F : List Int → Nat) : Prop where
 bw : ∀ (s : List Int) (l : Nat) (o : Op) (c : Nat), StateOK t.Vars s → t.Ops[l]? = some o → Qap x (F s) l c → ∃ s', StateOK t.Vars s' ∧ F s' = c ∧ ∀ w ∈ L, ∀ a b, s[w.toNat]? = some a → s'[w.toNat]? = some b → TB t o w a b
 gl : ∀ s, StateOK t.Vars s → x.Goals[F s]? = some true → ∀ q ∈ t.Goal, q.Var ∈ L → s[q.Var.toNat]? = some q.Val
section
variable {t : Task} {x y z : System} {F G : List Int → Nat} {L : List Int}
theorem Qfb {t : Task} (ht : GoodT t) {l : Nat} {o : Op} (ho : t.Ops[l]? = some o) {s : List Int} (hs : StateOK t.Vars s) : StateOK t.Vars (JH o.Effs s) :=
 QdA hs fun e he => ((ht.op o (List.mem_of_getElem? ho)).eff e he).2
theorem Qc8 {v : Int} {s : List Int} (hs : StateOK t.Vars s) (h0 : 0 ≤ v) (h1 : v < (t.Vars.length : Int)) : s[v.toNat]? = some (Qes v s : Int) ∧ (Qes v s : Int) < JO t.Vars v := by
 obtain ⟨a, ha, ha0, ha1⟩ := hs.at h0 h1
 unfold Qes
 rw [ha]
 simp only [Option.getD_some]
 rw [Int.toNat_of_nonneg ha0]
 exact ⟨Z, ha1⟩
theorem Qd9 (ht : SmallT t) {v : Int} (h0 : 0 ≤ v) (h1 : v < (t.Vars.length : Int)) (hx : AtomRes t v x) : CInv t [v] x (Qes v) ∧ CEx t [v] x (Qes v) := by
 have hd := Kf ht.g.v h0 h1
 refine ⟨⟨hx.vsys ht.g h0 h1, hx.c, fun s hs => ?_, fun s s' hs hs' h => ?_, fun s l o hs ho hp => ?_, fun s hs h => ?_, fun l o ho => ?_, by rw [Qbi, hx.s]; exact Int.le_refl _⟩, ⟨fun s l o c hs ho he => ?_, fun s hs h q hq hv => ?_⟩⟩
 ·have := (Qc8 hs h0 h1).2
  have := hx.s
  omega
 ·unfold Qes; rw [h v (by simp)]
 ·have hop := ht.g.op o (List.mem_of_getElem? ho)
  have hat := QdB hs h0 h1 (effs := o.Effs) fun e he => (hop.eff e he).2
  have h2 := Qc8 (Qfb ht.g ho hs) h0 h1
  rw [hat] at h2
  exact (hx.mem _).2 ⟨l, o, ho, Z, s, hs, (Qc8 hs h0 h1).1, hp, (Zu h2.1).symm⟩
 ·obtain ⟨a1, a2⟩ := Qc8 hs h0 h1
  obtain ⟨b, hb, hb2⟩ := hx.g (Qes v s) a2
  rw [hb, hb2.2]
  intro q hq hv
  have := h q hq (by simp [hv])
  rw [hv, a1] at this
  exact (Zu this).symm
 ·have := Qns ht.g h0 h1 hx ho (ht.ne o (List.mem_of_getElem? ho))
  simpa [Qge, Qbi] using this
 ·obtain ⟨i, o', ho', hl, σ, s1, s2, s3, s4⟩ := (hx.mem _).1 he
  simp only at hl s2 s4
  obtain rfl : l = i := by omega
  rw [ho] at ho'; cases ho'
  have hat := QdB s1 h0 h1 (effs := o.Effs) fun e he => ((ht.g.op o (List.mem_of_getElem? ho)).eff e he).2
  refine ⟨JH o.Effs σ, Qfb ht.g ho s1, ?_, ?_⟩
  ·unfold Qes; rw [hat, ← s4]; simp
  ·intro w hw a b ha hb
   simp only [List.mem_singleton] at hw
   subst hw
   rw [(Qc8 hs h0 h1).1] at ha
   cases ha
   rw [hat] at hb
   exact ⟨σ, s1, s2, s3, (Zu hb).symm⟩
 ·obtain ⟨a1, a2⟩ := Qc8 hs h0 h1
  obtain ⟨b, hb, hb2⟩ := hx.g (Qes v s) a2
  rw [hb] at h
  have hv' : q.Var = v := by simpa using hv
  have := hb2.1 (Zu h) q hq hv'
  rw [hv', a1, this]
theorem CInv.le (h : CInv t L x F) (K : List Int) (hK : L = K) : CInv t K x F := hK ▸ h
theorem Qiz (hv : VSys x) {i : Nat} (h : x.Goals[i]? = some true) : i < x.States.toNat := by
 have := (List.getElem?_eq_some_iff.1 h).1
 have := hv.g
 omega
theorem Qlz (h : CInv t L x F) {c : List Int} {K : Nat} (hK : KOK c x.States.toNat K) (hq : QRes x c K y) : CInv t L y (fun s => cN c (F s)) := by
 have hc := hK.clsOf
 have hv := h.v
 refine ⟨hq.v hv hK, by rw [hq.cs, h.c], fun s hs => ?_, fun s s' hs hs' he => by simp only [h.d s s' hs hs' he], fun s l o hs ho hp => ?_, fun s hs hg => ?_, fun l o ho => ?_, ?_⟩
 ·have := (hc.get (h.r s hs)).2
  have := hq.s
  omega
 ·exact (hq.edge hv).2 ⟨_, _, h.f s l o hs ho hp, Z, Z⟩
 ·have h1 := hc.get (h.r s hs)
  rw [hq.g _ h1.2, JZ.2 ⟨F s, h1.1, h.g s hs hg⟩]
 ·refine (h.b l o ho).le ?_
  have := Qbb (C := Jl y l) (M := (Jl x l).map (QfE c)) (List.Pairwise.filter _ (Srt.nodup hq.o)) fun d hd => ?_
  ·simpa using this
  ·obtain ⟨h1, h2⟩ := K2.1 hd
   obtain ⟨e, he, rfl⟩ := (hq.e d).1 h1
   exact List.mem_map.2 ⟨e, K2.2 ⟨he, h2⟩, Z⟩
 ·have := hK.le
  have := hq.s
  have := h.n
  have := hv.s1
  omega
theorem QmE (h : CInv t L x F) (hx : CEx t L x F) {c : List Int} {K : Nat} (hK : KOK c x.States.toNat K) (hq : QRes x c K y) (hb : IsBis (Kw x h.v) c) : CEx t L y (fun s => cN c (F s)) := by
 have hc := hK.clsOf
 have hv := h.v
 refine ⟨fun s l o k hs ho he => ?_, fun s hs hg => ?_⟩
 ·obtain ⟨i, u, h1, h2, h3⟩ := (hq.edge hv).1 he
  have hr := (Kw x hv).rng i l u h1
  have hi : i < x.States.toNat := hr.1
  have heq : eqL c i (F s) := (QdO hc hi (h.r s hs)).1 h2
  obtain ⟨u', e1, e2⟩ := (hb.1.sig i (F s) hi (h.r s hs) heq).1 l u h1
  obtain ⟨s', g1, g2, g3⟩ := hx.bw s l o u' hs ho e1
  refine ⟨s', g1, ?_, g3⟩
  have hr' := (Kw x hv).rng (F s) l u' e1
  show cN c (F s') = k
  rw [g2, ← h3]
  exact (QdO hc hr'.2 hr.2).2 (Eq.symm e2)
 ·have h1 := hc.get (h.r s hs)
  rw [hq.g _ h1.2] at hg
  obtain ⟨i, hi, hgi⟩ := JZ.1 (Zu hg)
  have hil := Qiz hv hgi
  have heq : eqL c i (F s) := by unfold eqL; rw [hi, h1.1]
  have hgg := hb.1.goal i (F s) hil (h.r s hs) heq
  have hgg' : x.Goals[i]?.getD false = x.Goals[F s]?.getD false := hgg
  rw [hgi] at hgg'
  have : x.Goals[F s]? = some true := by
   cases e : x.Goals[F s]? with
   | none => rw [e] at hgg'; cases hgg'
   | some b => rw [e] at hgg'; simp at hgg'; rw [hgg']
  exact hx.gl s hs this
theorem QlT (n : Nat) (l u v u' v' : Nat) (y : System) (hn : y.States = (n : Int)) : mkE y.States (l : Int) (⟨(u : Int), (l : Int), (v : Int)⟩ : Edge) (⟨(u' : Int), (l : Int), (v' : Int)⟩ : Edge) = ⟨((u * n + u' : Nat) : Int), (l : Int), ((v * n + v' : Nat) : Int)⟩ := by
 unfold mkE
 rw [hn]
 simp
theorem QhG (hx : VSys x) (hy : VSys y) (hz : ProdRes x y z) {i l k : Nat} : Qap z i l k ↔ ∃ u v u' v', Qap x u l v ∧ Qap y u' l v' ∧ i = u * y.States.toNat + u' ∧ k = v * y.States.toNat + v' := by
 have hn : y.States = (y.States.toNat : Int) := by have := hy.s1; omega
 unfold Qap
 rw [hz.e]
 constructor
 ·rintro ⟨e, he, f, hf, hl, h⟩
  obtain ⟨u, l1, v, rfl, _, _, _⟩ := Y4 hx he
  obtain ⟨u', l2, v', rfl, _, _, _⟩ := Y4 hy hf
  simp only at hl h
  obtain rfl : l1 = l2 := by omega
  rw [QlT _ l1 u v u' v' y hn] at h
  simp only [Edge.mk.injEq] at h
  obtain rfl : l = l1 := by omega
  exact ⟨u, v, u', v', he, hf, by omega, by omega⟩
 ·rintro ⟨u, v, u', v', he, hf, rfl, rfl⟩
  exact ⟨_, he, _, hf, Z, by rw [QlT _ l u v u' v' y hn]⟩
theorem QhF (hx : VSys x) (hy : VSys y) (hz : ProdRes x y z) {i k : Nat} (hi : i < x.States.toNat) (hk : k < y.States.toNat) : z.Goals[i * y.States.toNat + k]? = some true ↔ x.Goals[i]? = some true ∧ y.Goals[k]? = some true := by
 have h1 := hx.g
 have h2 := hy.g
 obtain ⟨a, ha⟩ := Qy (xs := x.Goals) (i := i) (by omega)
 obtain ⟨b, hb⟩ := Qy (xs := y.Goals) (i := k) (by omega)
 have hl : y.Goals.length = y.States.toNat := by omega
 rw [hz.g]
 unfold Qgl
 have := Qfm (f := fun g => y.Goals.map fun h => g && h) (m := y.States.toNat) (xs := x.Goals) (by simp [hl]) ha (y := k) (z := a && b) (by rw [List.getElem?_map, hb]; rfl)
 rw [this, ha, hb]
 simp
theorem Qnc {a b m n : Nat} (ha : a < m) (hb : b < n) : a * n + b < m * n := by
 have : (a + 1) * n ≤ m * n := Nat.mul_le_mul_right _ ha
 rw [Nat.succ_mul] at this
 omega
theorem Qmt {a b c d n : Nat} (hb : b < n) (hd : d < n) (h : a * n + b = c * n + d) : a = c ∧ b = d := by
 have := Qim (n := (n : Int)) (x := (a : Int)) (y := (b : Int)) (x' := (c : Int)) (y' := (d : Int)) (by omega) (by omega) (by omega) (by omega) (by exact_mod_cast h)
 omega
theorem Ql0 (ht : SmallT t) (hL : ∀ w ∈ L, 0 ≤ w ∧ w < (t.Vars.length : Int)) {v : Int} (h0 : 0 ≤ v) (h1 : v < (t.Vars.length : Int)) (hx : CInv t L x F) (hy : CInv t [v] y G) (hz : ProdRes x y z) (hs : x.States * y.States ≤ 4096) (hl : z.Edges.length ≤ 65536) : CInv t (L ++ [v]) z (fun s => F s * y.States.toNat + G s) := by
 have hxs := hx.v.s1
 have hys := hy.v.s1
 have hc : x.Costs = y.Costs := by rw [hx.c, hy.c]
 have hst : z.States.toNat = x.States.toNat * y.States.toNat := by rw [hz.s, Int.toNat_mul (by omega) (by omega)]
 have hp1 := Qgs ht.g hL
 have hd := Kf ht.g.v h0 h1
 have hp2 : YS t [v] = JO t.Vars v := Qbi t v
 refine ⟨hz.v hx.v hy.v hc hs hl, by rw [hz.c, hx.c], fun s hs => ?_, fun s s' hs hs' he => ?_, fun s l o hs ho hp => ?_, fun s hs hg => ?_, fun l o ho => ?_, ?_⟩
 ·rw [hst]
  exact Qnc (hx.r s hs) (hy.r s hs)
 ·have e1 := hx.d s s' hs hs' fun w hw => he w (by simp [hw])
  have e2 := hy.d s s' hs hs' fun w hw => he w (by simp at hw; simp [hw])
  simp only [e1, e2]
 ·exact (QhG hx.v hy.v hz).2 ⟨_, _, _, _, hx.f s l o hs ho hp, hy.f s l o hs ho hp, Z, Z⟩
 ·exact (QhF hx.v hy.v hz (hx.r s hs) (hy.r s hs)).2 ⟨hx.g s hs fun q hq hm => hg q hq (by simp [hm]), hy.g s hs fun q hq hm => hg q hq (by simp at hm; simp [hm])⟩
 ·have := ((hx.b l o ho).mul (hy.b l o ho)).le (Qlf hz hx.v hy.v l)
  rw [QfD, Qce, Int.toNat_mul (by omega) (by omega)]
  exact this
 ·rw [hz.s, Qce]
  exact Int.mul_le_mul hx.n hy.n (by omega) (by omega)
theorem QmF (ht : SmallT t) (hL : ∀ w ∈ L, 0 ≤ w ∧ w < (t.Vars.length : Int)) {v : Int} (h0 : 0 ≤ v) (h1 : v < (t.Vars.length : Int)) (hvL : v ∉ L) (hx : CInv t L x F) (hy : CInv t [v] y G) (hz : ProdRes x y z) (ex : CEx t L x F) (ey : CEx t [v] y G) : CEx t (L ++ [v]) z (fun s => F s * y.States.toNat + G s) := by
 refine ⟨fun s l o c hs ho he => ?_, fun s hs hg q hq hm => ?_⟩
 ·obtain ⟨u, k, u', k', e1, e2, e3, rfl⟩ := (QhG hx.v hy.v hz).1 he
  have hu' := ((Kw y hy.v).rng u' l k' e2).1
  obtain ⟨rfl, rfl⟩ := Qmt (hy.r s hs) hu' e3
  obtain ⟨s1, p1, p2, p3⟩ := ex.bw s l o k hs ho e1
  obtain ⟨s2, q1, q2, q3⟩ := ey.bw s l o k' hs ho e2
  obtain ⟨b, hb, hb0, hb1⟩ := q1.at h0 h1
  have hok : StateOK t.Vars (s1.set v.toNat b) := p1.set hb0 hb1
  have hlen := p1.len
  have hset : (s1.set v.toNat b)[v.toNat]? = some b := by rw [List.getElem?_set_self (by omega)]
  have hoth : ∀ w ∈ L, (s1.set v.toNat b)[w.toNat]? = s1[w.toNat]? := by
   intro w hw
   rw [List.getElem?_set_ne]
   intro e
   have := hL w hw
   exact hvL ((show v = w by omega) ▸ hw)
  have eF : F (s1.set v.toNat b) = k := by rw [hx.d _ s1 hok p1 hoth, p2]
  have eG : G (s1.set v.toNat b) = k' := by
   rw [hy.d _ s2 hok q1 (by intro w hw; simp only [List.mem_singleton] at hw; subst hw; rw [hset, hb]), q2]
  refine ⟨s1.set v.toNat b, hok, by simp only [eF, eG], fun w hw a b' ha hb' => ?_⟩
  rcases List.mem_append.1 hw with hw | hw
  ·rw [hoth w hw] at hb'
   exact p3 w hw a b' ha hb'
  ·simp only [List.mem_singleton] at hw
   subst hw
   rw [hset] at hb'
   cases hb'
   exact q3 w (by simp) a b ha hb
 ·obtain ⟨g1, g2⟩ := (QhF hx.v hy.v hz (hx.r s hs) (hy.r s hs)).1 hg
  rcases List.mem_append.1 hm with hm | hm
  ·exact ex.gl s hs g1 q hq hm
  ·exact ey.gl s hs g2 q hq hm
/-! ### distances -/
theorem Qlj (ht : SmallT t) (hx : CInv t L x F) {i : Nat} {c : Int} (h : Reach (BA t) (QfF t) i c) : ∀ s, StateOK t.Vars s → rk t.Vars s = (i : Int) → Reach (Kz x true) (QdD x) (F s) c := by
 have hv1 : ∀ n ∈ t.Vars, 1 ≤ n := fun n hn => (ht.g.v n hn).1
 induction h with
 | base hs =>
  intro s hsok hr
  obtain ⟨s', hs', h1, h2⟩ := hs
  have := QhZ hv1 hs' hsok (by rw [h1, hr])
  subst this
  exact .base (hx.g s' hsok fun q hq _ => h2 q hq)
 | step _ ha ih =>
  intro s hsok hr
  obtain ⟨s', l, o, hs', ho, hp, rfl, h1, h2⟩ := ha
  have := QhZ hv1 hs' hsok (by rw [h2, hr])
  subst this
  refine .step (ih _ (Qfb ht.g ho hs') h1) ⟨_, hx.f s' l o hs' ho hp, l, Z, ?_, ?_⟩
  ·rw [hx.c, List.getElem?_map, ho]; rfl
  ·simp
theorem Qmv (ht : SmallT t) (hown : QlH t) {l : Nat} {o : Op} (ho : t.Ops[l]? = some o) {s s' : List Int} (hs : StateOK t.Vars s) (hs' : StateOK t.Vars s') (hst : ∀ w : Nat, w < t.Vars.length → ∀ a b, s[w]? = some a → s'[w]? = some b → TB t o (w : Int) a b) : JD o.Pre s ∧ JH o.Effs s = s' := by
 have hom := List.mem_of_getElem? ho
 have hop := ht.g.op o hom
 have haok := Qfb ht.g ho hs
 constructor
 ·intro f hf
  have hr := hop.pre.r f hf
  obtain ⟨a, ha, _⟩ := hs.at hr.1 hr.2.1
  obtain ⟨b, hb, _⟩ := hs'.at hr.1 hr.2.1
  obtain ⟨σ, s1, s2, s3, _⟩ := hst f.Var.toNat (by have := hr.1; have := hr.2.1; omega) a b ha hb
  have := s3 f hf
  rw [Int.toNat_natCast] at s2
  rw [s2] at this
  rw [ha, this]
 ·apply List.ext_getElem?
  intro w
  by_cases hw : w < t.Vars.length
  ·have hat := QdB hs (v := (w : Int)) (by omega) (by omega) (effs := o.Effs) fun e he => (hop.eff e he).2
   rw [Int.toNat_natCast] at hat
   obtain ⟨a, ha⟩ := Qy (xs := s) (i := w) (by rw [hs.len]; exact hw)
   obtain ⟨b, hb⟩ := Qy (xs := s') (i := w) (by rw [hs'.len]; exact hw)
   obtain ⟨σ, s1, s2, s3, s4⟩ := hst w hw a b ha hb
   rw [Int.toNat_natCast] at s2
   rw [hat, hb, s4]
   congr 1
   refine QgP (by rw [Int.toNat_natCast, ha, s2]) fun e he hev => ?_
   have hsame : ∀ f ∈ e.When, s[f.Var.toNat]? = σ[f.Var.toNat]? := by
    intro f hf
    rw [hown o hom e he f hf, hev, Int.toNat_natCast, ha, s2]
   constructor
   ·intro h f hf; rw [← hsame f hf]; exact h f hf
   ·intro h f hf; rw [hsame f hf]; exact h f hf
  ·rw [List.getElem?_eq_none (by rw [haok.len]; omega), List.getElem?_eq_none (by rw [hs'.len]; omega)]
theorem Qka (ht : SmallT t) (hown : QlH t) (hall : ∀ w : Nat, w < t.Vars.length → (w : Int) ∈ L) (hx : CInv t L x F) (ex : CEx t L x F) {i : Nat} {c : Int} (h : Reach (Kz x true) (QdD x) i c) : ∀ s, StateOK t.Vars s → F s = i → ∀ j : Nat, rk t.Vars s = (j : Int) → Reach (BA t) (QfF t) j c := by
 have hv1 : ∀ n ∈ t.Vars, 1 ≤ n := fun n hn => (ht.g.v n hn).1
 induction h with
 | base hs =>
  rintro s hsok rfl j hj
  refine .base ⟨s, hsok, hj, fun q hq => ?_⟩
  have hr := ht.g.goal.r q hq
  have := hall q.Var.toNat (by have := hr.1; have := hr.2.1; omega)
  rw [Int.toNat_of_nonneg hr.1] at this
  exact ex.gl s hsok hs q hq this
 | @step v u c w _ ha ih =>
  rintro s hsok rfl j hj
  obtain ⟨d, hd, l, hl, hc, h2⟩ := ha
  simp only [if_true] at h2
  rw [hx.c, List.getElem?_map] at hc
  obtain ⟨o, ho, rfl⟩ := Option.map_eq_some_iff.1 hc
  have he : Qap x (F s) l v := by
   unfold Qap
   rw [← h2.1, ← h2.2, ← hl]
   exact hd
  obtain ⟨s', g1, g2, g3⟩ := ex.bw s l o v hsok ho he
  obtain ⟨p1, p2⟩ := Qmv ht hown ho hsok g1 fun w hw a b ha hb => g3 (w : Int) (hall w hw) a b (by rw [Int.toNat_natCast]; exact ha) (by rw [Int.toNat_natCast]; exact hb)
  have hr := QiH hv1 g1
  refine .step (ih s' g1 g2 (rk t.Vars s').toNat (by omega)) ⟨s, l, o, hsok, ho, p1, Z, by rw [p2]; omega, hj⟩
theorem Qm9 (ht : SmallT t) (hx : CInv t L x F) {d k : List Int} (hd : SP (Kz x true) (QdD x) x.States.toNat d) (hk : SP (BA t) (QfF t) (Ke t.Vars).toNat k) {s : List Int} (hs : StateOK t.Vars s) :
  ∃ a b, d[F s]? = some a ∧ k[(rk t.Vars s).toNat]? = some b ∧ 0 ≤ a ∧ a ≤ b ∧ (QlH t → (∀ w : Nat, w < t.Vars.length → (w : Int) ∈ L) → CEx t L x F → a = b) := by
 have hv1 : ∀ n ∈ t.Vars, 1 ≤ n := fun n hn => (ht.g.v n hn).1
 have hr := QiH hv1 hs
 obtain ⟨a, ha⟩ := Qy (xs := d) (i := F s) (by rw [hd.len]; exact hx.r s hs)
 obtain ⟨b, hb⟩ := Qy (xs := k) (i := (rk t.Vars s).toNat) (by rw [hk.len]; omega)
 have ra := hd.rng _ a ha
 have rb := hk.rng _ b hb
 have hAx : AOK (Kz x true) (QdD x) x.States.toNat := hx.v.ws.aok true fun i hi => by
  have := (List.getElem?_eq_some_iff.1 hi).1
  have := hx.v.g
  omega
 have hle : a ≤ b := by
  by_cases hlt : b < Inf
  ·obtain ⟨z, hz, hzl⟩ := hd.le hAx (Qlj ht hx (hk.re _ b hb hlt) s hs (by omega)) hlt
   rw [ha] at hz; cases hz; exact hzl
  ·omega
 refine ⟨a, b, ha, hb, ra.1, hle, fun hown hall ex => ?_⟩
 have hge : b ≤ a := by
  by_cases hlt : a < Inf
  ·obtain ⟨z, hz, hzl⟩ := hk.le (Qmb ht) (Qka ht hown hall hx ex (hd.re _ a ha hlt) s hs rfl (rk t.Vars s).toNat (by omega)) hlt
   rw [hb] at hz; cases hz; exact hzl
  ·omega
 omega
end
end Go.Pw
/- -/
set_option maxHeartbeats 4000000
namespace Go.Pw
def idL (n : Nat) : List Int := (List.range n).map fun (i : Nat) => (i : Int)
theorem Qdy (n : Nat) : (idL n).length = n := by simp [idL]
theorem Qio {n i : Nat} (h : i < n) : (idL n)[i]? = some (i : Int) := by simp [idL, h]
theorem QfW {n : Nat} (h : n ≤ 1000000) : JI (n : Int) = some (idL n) := by
 refine Ok.eq ?_
 unfold JI
 rw [Qb0 (by omega) (by omega)]
 simp only [Option.bind_some]
 refine Ok.bind (QO (fun j (l : List Int) => l.length = n ∧ ∀ i, i < j → l[i]? = some (i : Int)) ⟨by simp, fun i hi => absurd hi (Nat.not_lt_zero i)⟩ ?_ ?_)
 ·rintro j l hj ⟨h1, h2⟩
  rw [List.length_replicate] at hj
  obtain ⟨y, hy⟩ := Qy (xs := l) (i := j) (by omega)
  simp only [Qn, hy, Option.bind_some]
  rw [QX (by omega)]
  refine Ok.ret ⟨by simp [h1], fun i hi => ?_⟩
  by_cases e : i = j
  ·subst e; rw [List.getElem?_set_self (by omega)]
  ·rw [List.getElem?_set_ne (Ne.symm e)]; exact h2 i (by omega)
 ·rintro l ⟨h1, h2⟩
  rw [List.length_replicate] at h2
  refine Ok.ret ?_
  apply List.ext_getElem?
  intro i
  by_cases hi : i < n
  ·rw [h2 i hi, Qio hi]
  ·rw [List.getElem?_eq_none (by omega), List.getElem?_eq_none (by rw [Qdy]; omega)]
theorem Qnb {x : System} {c : List Int} {K : Nat} (hK : 2 ≤ K) (hK2 : K ≤ 4000000) : ∃ i k, PickOr (JX x c) K i k := by
 obtain ⟨r, _, i, k, _, h⟩ := Qk9 (goals := (List.range K).map (JX x c)) (g := JX x c) (by simp) (fun b hb => by simp [hb]) hK hK2
 exact ⟨i, k, h⟩
theorem QjS {x : System} {n : Nat} (hn : n ≤ 4000000) : ∀ (j : Nat) {c : List Int} {K : Nat}, KOK c n K → j + 1 ≤ K → KOK (itM x j c K) n (K - j)
 | 0, c, K, h, _ => h
 | j + 1, c, K, h, hj => by
  have hle := h.le
  obtain ⟨i, k, hp⟩ := Qnb (x := x) (c := c) (K := K) (by omega) (by omega)
  have hl := hp.lt (by omega)
  have h1 : KOK (Qkv x c K) n (K - 1) := by
   unfold Qkv
   rw [Qn4 hp]
   exact h.join hl.1 hl.2
  have := QjS (x := x) hn j h1 (by omega)
  have e : K - 1 - j = K - (j + 1) := by omega
  rw [e] at this
  exact this
theorem Qd8 {c : List Int} {n K : Nat} (h : KOK c n K) (hn : 0 < n) (hn2 : n ≤ 4000000) : QQ c = some (K : Int) := by
 unfold QQ
 have := h.le
 rw [QlU h hn hn2]
 simp only [Option.bind_some]
 rw [QA (by omega) (by omega)]
 congr 1; omega
section
variable {t : Task} {x : System} {F : List Int → Nat} {L : List Int}
structure SmRes (t : Task) (L : List Int) (x : System) (F : List Int → Nat) (ex : Bool) (most : Int) (c : List Int) (y : System) (ex' : Bool) (G : List Int → Nat) : Prop where
 i : CInv t L y G
 g : ∀ s, StateOK t.Vars s → Qz c (F s : Int) = some (G s : Int)
 e : ex' = true → ex = true
 xx : CEx t L x F → ex' = true → CEx t L y G
 m : y.States ≤ max 1 most
 s : y.States ≤ x.States
 n : x.States ≤ most → y = x ∧ ex' = ex ∧ c = idL x.States.toNat
theorem QbC (h : CInv t L x F) (hs : x.States ≤ 100) (hl : x.Costs.length ≤ 100) (a : mergeshrink_Abstraction) (most : Int) :
  Ok (Q7 a x most) fun r => r.2.1 = none ∧ ∃ G, SmRes t L x F a.exact most r.1 r.2.2.1 r.2.2.2 G := by
 have hv := h.v
 have s1 := hv.s1
 unfold Q7
 by_cases hle : x.States ≤ most
 ·simp only [hle, decide_true, if_true]
  obtain ⟨n, hn⟩ : ∃ n : Nat, x.States = (n : Int) := ⟨x.States.toNat, by omega⟩
  rw [hn, QfW (by omega)]
  simp only [Option.bind_some]
  refine Ok.ret ⟨Z, F, h, fun s hs => ?_, id, fun h _ => h, (by simp only; omega), Int.le_refl _, fun _ => ⟨Z, Z, ?_⟩⟩
  ·have := h.r s hs
   rw [Qn, Qio (by omega)]
  ·rw [hn]; simp
 ·simp only [hle, decide_false, Bool.false_eq_true, if_false]
  refine Ok.bind ((Qjc hv hs hl most).mono ?_)
  rintro ⟨c, e⟩ ⟨h1, c0, hb, hc⟩
  simp only at h1 hc
  subst h1
  simp only [QM, Option.isSome_none, Bool.false_eq_true, if_false]
  refine Ok.bind ((Qg2 hv hs hl).mono ?_)
  rintro ⟨c1, e1⟩ ⟨h2, hb1⟩
  simp only at h2 hb1
  subst h2
  obtain rfl := hb.uniq hb1
  have hk0 : KOK c0 x.States.toNat (Yw (eqL c0) x.States.toNat) := hb.kok
  generalize Yw (eqL c0) x.States.toNat = K0 at hk0 hc
  obtain ⟨m, hm, hm1⟩ := Qe4 most
  rw [hm, show ((m : Int)).toNat = m by omega] at hc
  have hK1 : 1 ≤ K0 := by obtain ⟨k, h, _⟩ := hk0.rng 0 (by omega); omega
  have hkc := QjS (x := x) (by omega) (K0 - m) hk0 (by omega)
  rw [← hc] at hkc
  have hle0 := hk0.le
  simp only [QM, Option.isSome_none, Bool.false_eq_true, if_false]
  have hz : ∃ z, (if a.exact = true then ((QQ c).bind fun y105 => (QQ c0).bind fun y106 => some (decide (y105 = y106))) else some false) = some z ∧ (z = true → a.exact = true ∧ K0 - m = 0) := by
   by_cases hx : a.exact = true
   ·rw [if_pos hx, Qd8 hkc (by omega) (by omega), Qd8 hk0 (by omega) (by omega)]
    refine ⟨_, Z, fun hd => ⟨hx, ?_⟩⟩
    simp only [decide_eq_true_eq] at hd
    omega
   ·rw [if_neg hx]
    exact ⟨_, Z, fun h => by cases h⟩
  obtain ⟨z, hz1, hz2⟩ := hz
  rw [hz1]
  simp only [Option.bind_some]
  refine Ok.bind ((Qk7 hv hkc).mono ?_)
  rintro ⟨e, y⟩ ⟨h3, hq⟩
  simp only at h3 hq
  subst h3
  have hcl := hkc.clsOf
  have hys := hq.s
  refine Ok.ret ⟨Z, _, Qlz h hkc hq, fun s hs => ?_, fun hz => (hz2 hz).1, fun hx hz => ?_, ?_, ?_, fun h => absurd h hle⟩
  ·rw [Qn]; exact (hcl.get (h.r s hs)).1
  ·have h0 := (hz2 hz).2
   rw [h0] at hc
   simp only [itM] at hc
   subst hc
   exact QmE h hx hkc hq hb
  ·simp only; omega
  ·simp only; omega
end
end Go.Pw
/- -/
set_option maxHeartbeats 4000000
namespace Go.Pw
theorem Qg3 (a b : Edge) : J1 a b = true ↔ EdLt a b := by
 have h := QaX a b
 unfold Y8 at h
 unfold EdLt
 by_cases h1 : a.From = b.From
 ·by_cases h2 : a.Label = b.Label
  ·simp [h1, h2] at h; rw [← h]; simp [h1, h2]
  ·simp [h1, h2] at h; rw [← h]; simp [h1, h2]
 ·simp [h1] at h; rw [← h]; simp [h1]
open Classical in
theorem rV (x : System) : KP x = some (QjA x) := by
 unfold KP
 rw [QkE]
 by_cases h : x.States < 1 ∨ 4096 < x.States ∨ x.Init < 0 ∨ x.States ≤ x.Init ∨ ¬ (x.Goals.length : Int) = x.States ∨ 4096 < (x.Costs.length : Int) ∨ 65536 < (x.Edges.length : Int)
 ·rw [if_pos (by simpa using h)]
  have : ¬ VSys x := fun hv => by have := hv.s1; have := hv.s2; have := hv.i0; have := hv.i1; have := hv.g; have := hv.c; have := hv.e; omega
  unfold QjA; simp [this]
 ·rw [if_neg (by simpa using h), Qk3 x h, YF (fun j hj => Qn8 x false j hj)]
  have hl : x.Edges.length ≤ 65536 := by omega
  rw [YF (fun j hj => Qn7 x j hj hl (fun a b => some (!(J1 a b))) (fun a b => by
   have := Qg3 a b
   by_cases hlt : EdLt a b
   ·simp [hlt, this.2 hlt]
   ·have h2 : J1 a b = false := by
     cases hb : J1 a b with
     | false => rfl
     | true => exact absurd (this.1 hb) hlt
    simp [hlt, h2]))]
  cases (List.range x.Costs.length).all (Qee x) <;> cases (List.range x.Edges.length).all (YQ x) <;> rfl
end Go.Pw
/- -/
set_option maxHeartbeats 4000000
namespace Go.Pw
theorem Qdf {l : List Edge} {e : Edge} (hl : Srt l) (hlen : l.length ≤ 1000000) : Ok (K6 l e) fun k => Srt k ∧ (∀ d, d ∈ k ↔ d ∈ l ∨ d = e) ∧ k.length ≤ l.length + 1 := by
 unfold K6
 have hp := List.pairwise_iff_getElem.1 hl
 refine K3 (fun at_ : Int => ∃ n : Nat, at_ = (n : Int) ∧ n ≤ l.length ∧ ∀ j (h : j < l.length), n ≤ j → EdLt e l[j]) (fun at_ => ∃ n : Nat, at_ = (n : Int) ∧ n ≤ l.length ∧ (∀ j (h : j < l.length), n ≤ j → EdLt e l[j]) ∧ ∀ j (h : j < l.length), j < n → EdLt l[j] e)
  (fun r => r = l ∧ e ∈ l) (fun at_ => at_.toNat) ⟨l.length, rfl, Nat.le_refl _, fun j h h' => absurd h (by omega)⟩ ?_ ?_ ?_
 ·rintro at_ ⟨n, rfl, hn, hge⟩
  by_cases h0 : n = 0
  ·subst h0
   exact ⟨.brk ((0 : Nat) : Int), by simp, by simp, fun s' e' => by cases e'; exact ⟨0, Z, by omega, hge, fun j h h' => absurd h' (by omega)⟩, by simp⟩
  ·have hlt : n - 1 < l.length := by omega
   have hw : IntKind.i64.wrap ((n : Int) - 1) = ((n - 1 : Nat) : Int) := by rw [QA (by omega) (by omega)]; omega
   have hget : l[n - 1]? = some l[n - 1] := by simp [hlt]
   have hpos : (0 : Int) < (n : Int) := by omega
   rw [hw]
   simp only [hpos, decide_true, if_true, Qn, hget, Option.bind_some]
   by_cases hb : EdLt l[n - 1] e
   ·have hbt := (Qg3 l[n - 1] e).2 hb
    refine ⟨.brk (n : Int), by simp [hbt], by simp, fun s' e' => ?_, by simp⟩
    cases e'
    refine ⟨n, Z, hn, hge, fun j h hj => ?_⟩
    by_cases hj' : j = n - 1
    ·subst hj'; exact hb
    ·exact (hp j (n - 1) h hlt (by omega)).trans hb
   ·have hbt : J1 l[n - 1] e = false := by
     cases hx : J1 l[n - 1] e with
     | false => rfl
     | true => exact absurd ((Qg3 _ _).1 hx) hb
    simp only [hbt, Bool.not_false, if_true]
    by_cases heq : l[n - 1] = e
    ·have hq := (Qgy l[n - 1] e).2 heq
     refine ⟨.ret l, by simp [hq], by simp, by simp, fun r e' => ?_⟩
     cases e'
     exact ⟨Z, heq ▸ List.getElem_mem hlt⟩
    ·have hq : eqs [l[n - 1].From, l[n - 1].Label, l[n - 1].To] [e.From, e.Label, e.To] = false := by
      cases hx : eqs [l[n - 1].From, l[n - 1].Label, l[n - 1].To] [e.From, e.Label, e.To] with
      | false => rfl
      | true => exact absurd ((Qgy _ _).1 hx) heq
     refine ⟨.next ((n - 1 : Nat) : Int), by simp [hq], fun s' e' => ?_, by simp, by simp⟩
     cases e'
     refine ⟨⟨n - 1, Z, by omega, fun j h hj => ?_⟩, by simp; omega⟩
     by_cases hj' : j = n - 1
     ·subst hj'
      rcases QbK l[n - 1] e with h | h | h
      ·exact absurd h hb
      ·exact absurd h heq
      ·exact h
     ·exact hge j h (by omega)
 ·rintro r ⟨rfl, he⟩
  exact Ok.ret ⟨hl, fun d => ⟨.inl, fun h => h.elim (fun h => h) (fun h => h ▸ he)⟩, by omega⟩
 ·rintro at_ ⟨n, rfl, hn, hge, hlt⟩
  have hc1 : cut l 0 (n : Int) = some (l.take n) := by unfold cut; rw [if_pos (by omega)]; simp
  have hc2 : cut l (n : Int) (l.length : Int) = some (l.drop n) := by unfold cut; rw [if_pos (by omega)]; simp
  refine Ok.step hc1 (Ok.step hc2 (Ok.step (Jh (by simp; omega)) (Ok.step (Jh (by simp; omega)) (Ok.step (Jh (by simp; omega)) (Ok.ret ⟨?_, ?_, ?_⟩)))))
  ·simp only [List.nil_append]
   refine List.pairwise_append.2 ⟨List.pairwise_append.2 ⟨hl.sublist (List.take_sublist _ _), by simp, ?_⟩, hl.sublist (List.drop_sublist _ _), ?_⟩
   ·intro a ha b hb
    simp only [List.mem_singleton] at hb
    subst hb
    obtain ⟨j, hj, rfl⟩ := List.mem_iff_getElem.1 ha
    simp only [List.getElem_take]
    simp only [List.length_take] at hj
    exact hlt j (by omega) (by omega)
   ·intro a ha b hb
    obtain ⟨j, hj, rfl⟩ := List.mem_iff_getElem.1 hb
    simp only [List.length_drop] at hj
    have hb' : EdLt e l[n + j] := hge (n + j) (by omega) (by omega)
    simp only [List.getElem_drop]
    rcases List.mem_append.1 ha with ha | ha
    ·obtain ⟨i, hi, rfl⟩ := List.mem_iff_getElem.1 ha
     simp only [List.getElem_take]
     simp only [List.length_take] at hi
     exact hp i (n + j) (by omega) (by omega) (by omega)
    ·simp only [List.mem_singleton] at ha
     subst ha
     exact hb'
  ·intro d
   simp only [List.nil_append, List.mem_append, List.mem_singleton]
   constructor
   ·rintro ((h | h) | h)
    ·exact .inl (List.mem_of_mem_take h)
    ·exact .inr h
    ·exact .inl (List.mem_of_mem_drop h)
   ·rintro (h | h)
    ·rw [← List.take_append_drop n l] at h
     rcases List.mem_append.1 h with h | h
     ·exact .inl (.inl h)
     ·exact .inr h
    ·exact .inl (.inr h)
  ·simp; omega
end Go.Pw
/- -/
set_option maxHeartbeats 4000000
set_option maxRecDepth 100000
namespace Go.Pw
theorem QRes.uniq {x y z : System} {c : List Int} {K : Nat} (h : QRes x c K y) (k : QRes x c K z) : y = z := by
 have he : y.Edges = z.Edges := h.o.ext k.o fun e => (h.e e).trans (k.e e).symm
 have hg : y.Goals = z.Goals := by
  apply List.ext_getElem?
  intro b
  by_cases hb : b < K
  ·rw [h.g b hb, k.g b hb]
  ·rw [List.getElem?_eq_none (by rw [h.gl]; omega), List.getElem?_eq_none (by rw [k.gl]; omega)]
 have h1 := h.s.trans k.s.symm
 have h2 := h.i.trans k.i.symm
 have h3 := h.cs.trans k.cs.symm
 obtain ⟨x1, x2, x3, x4, x5⟩ := y
 obtain ⟨y1, y2, y3, y4, y5⟩ := z
 simp only at *
 subst h1 h2 h3 he hg
 rfl
theorem QjY {x : System} (hv : VSys x) {c : List Int} {K : Nat} (hK : KOK c x.States.toNat K) : Ok (K8 x c) fun r => r.1 = true ∧ QRes x c K r.2 := by
 unfold K8
 have s1 := hv.s1; have s2 := hv.s2; have i0 := hv.i0; have i1 := hv.i1; have hg := hv.g; have hcl := hv.c; have he := hv.e
 obtain ⟨n, hn⟩ : ∃ n : Nat, x.States = (n : Int) := ⟨x.States.toNat, by omega⟩
 have hnt : x.States.toNat = n := by omega
 rw [hnt] at hK
 have hc := hK.clsOf
 have hKn := hK.le
 have hmany : JR c x.States = some (K : Int) := by rw [hn]; exact Qil hK (by omega) (by omega)
 have hKf : ¬ ((K : Int) < 0) := by omega
 rw [hmany]
 simp only [Option.bind_some, rV, Qa1.2 hv, hKf, decide_false, Bool.not_true, Bool.false_eq_true, if_false]
 obtain ⟨q, hq⟩ : ∃ q : Nat, x.Init = (q : Int) := ⟨x.Init.toNat, by omega⟩
 have hci := (hc.get (i := q) (by omega)).1
 rw [hq, Qn, hci]
 simp only [Option.bind_some]
 refine Ok.step (Jh (by simp; omega)) (Ok.step (Qb0 (by omega) (by omega)) (Ok.bind ?_))
 refine QO (fun m (l : List Bool) => l.length = K ∧ ∀ b, b < K → ∃ z, l[b]? = some z ∧ (z = true ↔ ∃ i, i < m ∧ c[i]? = some (b : Int) ∧ x.Goals[i]? = some true)) ⟨by simp, fun b hb => ⟨false, by simp [hb], by simp⟩⟩ ?_ ?_
 ·rintro m l hm ⟨h1, h2⟩
  obtain ⟨g, hgm⟩ := QY hm
  have hcm := hc.get (i := m) (by omega)
  obtain ⟨z, hz, hz2⟩ := h2 _ hcm.2
  simp only [Qn, hgm, hcm.1, hz, Option.bind_some]
  have key : ∀ w : Bool, (w = true ↔ z = true ∨ g = true) → ((l.set (cN c m) w).length = K ∧ ∀ b, b < K → ∃ z, (l.set (cN c m) w)[b]? = some z ∧ (z = true ↔ ∃ i, i < m + 1 ∧ c[i]? = some (b : Int) ∧ x.Goals[i]? = some true)) := by
   intro w hw
   refine ⟨by simp [h1], fun b hb => ?_⟩
   by_cases e : b = cN c m
   ·subst e
    refine ⟨w, by rw [List.getElem?_set_self (by omega)], ?_⟩
    rw [hw, hz2]
    constructor
    ·rintro (⟨i, a1, a2, a3⟩ | h)
     ·exact ⟨i, by omega, a2, a3⟩
     ·exact ⟨m, by omega, hcm.1, by rw [hgm, h]⟩
    ·rintro ⟨i, a1, a2, a3⟩
     by_cases ei : i = m
     ·subst ei; rw [hgm] at a3; cases a3; exact .inr rfl
     ·exact .inl ⟨i, by omega, a2, a3⟩
   ·obtain ⟨z', b1, b2⟩ := h2 b hb
    refine ⟨z', by rw [List.getElem?_set_ne (Ne.symm e)]; exact b1, ?_⟩
    rw [b2]
    constructor
    ·rintro ⟨i, a1, a2, a3⟩; exact ⟨i, by omega, a2, a3⟩
    ·rintro ⟨i, a1, a2, a3⟩
     by_cases ei : i = m
     ·subst ei; rw [hcm.1] at a2; simp at a2; omega
     ·exact ⟨i, by omega, a2, a3⟩
  cases z with
  | true =>
   simp only [if_true]
   rw [QX (by omega)]
   exact Ok.ret (key true (by simp))
  | false =>
   simp only [Bool.false_eq_true, if_false]
   rw [QX (by omega)]
   exact Ok.ret (key g (by simp))
 ·rintro l ⟨h1, h2⟩
  refine Ok.bind (QO (fun m (z : List Edge) => Srt z ∧ z.length ≤ m ∧ ∀ e, e ∈ z ↔ ∃ d ∈ x.Edges.take m, e = QfE c d) ⟨List.Pairwise.nil, by simp, by simp⟩ ?_ ?_)
  ·rintro m z hm ⟨k1, k2, k3⟩
   obtain ⟨d, hd⟩ := QY hm
   obtain ⟨f, lb, t, rfl, hf, ht, _⟩ := Y4 hv (List.mem_of_getElem? hd)
   rw [hnt] at hf ht
   simp only [Qn, hd, (hc.get hf).1, (hc.get ht).1, Option.bind_some]
   refine Ok.bind ((Qdf k1 (by omega)).mono ?_)
   rintro z' ⟨j1, j2, j3⟩
   refine Ok.ret ⟨j1, by omega, fun e => ?_⟩
   rw [j2, k3, List.take_add_one, hd]
   simp only [Option.toList_some, List.mem_append, List.mem_singleton]
   constructor
   ·rintro (⟨d, hd, rfl⟩ | rfl)
    ·exact ⟨d, .inl hd, Z⟩
    ·exact ⟨_, .inr Z, by simp [QfE]⟩
   ·rintro ⟨d, hd | rfl, rfl⟩
    ·exact .inl ⟨d, hd, Z⟩
    ·exact .inr (by simp [QfE])
  ·rintro z ⟨k1, k2, k3⟩
   rw [List.take_length] at k3
   refine Ok.ret ⟨Z, Z, by simp [hq], by simp, h1, fun b hb => ?_, k1, k2, k3⟩
   obtain ⟨z', b1, b2⟩ := h2 b hb
   simp only
   rw [b1]
   congr 1
   rw [Bool.eq_iff_iff, b2, JZ]
   constructor
   ·rintro ⟨i, _, a2, a3⟩; exact ⟨i, a2, a3⟩
   ·rintro ⟨i, a2, a3⟩; exact ⟨i, (List.getElem?_eq_some_iff.1 a3).1, a2, a3⟩
open Classical in
theorem Qja : ∀ {l k : List Edge}, l.Nodup → (∀ x ∈ l, x ∈ k) → l.length ≤ k.length
 | [], _, _, _ => by simp
 | a :: l, k, hn, hs => by
  obtain ⟨h1, h2⟩ := List.nodup_cons.1 hn
  have ha := hs a (by simp)
  have h3 := Qja (l := l) (k := k.erase a) h2 fun x hx => (List.mem_erase_of_ne (fun e => h1 (by rw [← e]; exact hx))).2 (hs x (by simp [hx]))
  rw [List.length_erase_of_mem ha] at h3
  have := List.length_pos_of_mem ha
  simp only [List.length_cons]
  omega
theorem QgZ {a b : System} (ha : VSys a) (hb : VSys b) (hc : a.Costs = b.Costs) (hs : a.States * b.States ≤ 4096) {C : Nat} (hC : ∀ l, l < a.Costs.length → (Jl a l).length * (Jl b l).length ≤ C) (hm : C * a.Costs.length ≤ 65536) :
  Ok (KF a b) fun r => r.1 = 0 ∧ ProdRes a b r.2 := by
 unfold KF
 have va := Qa1.2 ha
 have vb := Qa1.2 hb
 simp only [rV, va, vb, Qop, hc, Option.bind_some, Bool.not_true, Bool.false_eq_true, if_false, decide_true]
 have s1 := ha.s1; have s2 := ha.s2; have s3 := hb.s1; have s4 := hb.s2; have i0 := ha.i0; have i1 := ha.i1; have j0 := hb.i0; have j1 := hb.i1
 have g1 := ha.g; have g2 := hb.g; have c1 := ha.c; have c2 := hb.c; have e1 := ha.e; have e2 := hb.e
 have m1 := Qfa (x := a.States) (n := b.States) (by omega) (by omega) (by omega) (by omega)
 have m2 := Qfa (x := a.Init) (n := b.States) (by omega) (by omega) (by omega) (by omega)
 have w1 : IntKind.i64.wrap (a.States * b.States) = a.States * b.States := QA (by omega) (by omega)
 have w2 : IntKind.i64.wrap (a.Init * b.States) = a.Init * b.States := QA (by omega) (by omega)
 have w3 : IntKind.i64.wrap (a.Init * b.States + b.Init) = a.Init * b.States + b.Init := QA (by omega) (by omega)
 have hall : (QfG a b).length ≤ 65536 := by
  unfold QfG
  refine Nat.le_trans (Qb7 (M := C) fun l hl => ?_) (by rw [List.length_range, Nat.mul_comm]; exact hm)
  rw [Qe1]
  exact hC l (List.mem_range.1 hl)
 have hlen : ∀ s : List Edge, Srt s → (∀ e ∈ s, PE a b e) → s.length ≤ 65536 := fun s h1 h2 =>
  Nat.le_trans (Qja h1.nodup fun e he => (Qjd ha e).2 (h2 e he)) hall
 rw [w1, w2, w3]
 have hng : ¬ 4096 < a.States * b.States := by omega
 simp only [hng, decide_false, Bool.false_eq_true, if_false]
 refine Ok.step (Jh (by simp; omega)) ?_
 rw [QgM a b (by omega) (by omega) _ (fun _ _ => rfl)]
 simp only [Option.bind_some, List.nil_append]
 refine Ok.bind (QO (fun i s => Srt s ∧ ∀ e, e ∈ s ↔ ∃ d ∈ a.Edges.take i, ∃ f ∈ b.Edges, d.Label = f.Label ∧ e = mkE b.States d.Label d f) ?_ ?_ ?_)
 ·exact ⟨List.Pairwise.nil, by simp⟩
 ·rintro i s hi ⟨h1, h3⟩
  obtain ⟨d, hd⟩ := Qy hi
  have hdm := List.mem_of_getElem? hd
  rw [Qn, hd]
  simp only [Option.bind_some]
  refine Ok.bind (QO (fun j t => Srt t ∧ ∀ e, e ∈ t ↔ e ∈ s ∨ ∃ f ∈ b.Edges.take j, d.Label = f.Label ∧ e = mkE b.States d.Label d f) ?_ ?_ ?_)
  ·exact ⟨h1, by simp⟩
  ·rintro j t hj ⟨k1, k3⟩
   obtain ⟨f, hf⟩ := Qy hj
   have hfm := List.mem_of_getElem? hf
   rw [Qn, hf]
   simp only [Option.bind_some]
   by_cases hl : d.Label = f.Label
   ·simp only [hl, decide_true, if_true]
    rw [← hl, Qjb ha hb hdm hfm]
    have htl := hlen t k1 fun e he => by
     rcases (k3 e).1 he with h | ⟨f', h1, h2, h3⟩
     ·obtain ⟨d', q1, f', q2, q3, q4⟩ := (h3 e).1 h
      exact ⟨d', List.mem_of_mem_take q1, f', q2, q3, q4⟩
     ·exact ⟨d, hdm, f', List.mem_of_mem_take h1, h2, h3⟩
    obtain ⟨t', ht1, ht2, ht3, ht4⟩ := Qdf (e := mkE b.States d.Label d f) k1 (by omega)
    rw [ht1]
    simp only [Option.bind_some]
    refine Ok.ret ⟨ht2, fun e => ?_⟩
    rw [ht3, k3, List.take_add_one, hf]
    simp only [List.mem_append, Option.toList_some, List.mem_singleton, exists_or, or_and_right, exists_eq_left]
    constructor
    ·rintro ((h | h) | h)
     ·exact .inl h
     ·exact .inr (.inl h)
     ·exact .inr (.inr ⟨hl, h⟩)
    ·rintro (h | h | ⟨_, h⟩)
     ·exact .inl (.inl h)
     ·exact .inl (.inr h)
     ·exact .inr h
   ·simp only [hl, decide_false, Bool.false_eq_true, if_false, Option.bind_some]
    refine Ok.ret ⟨k1, fun e => ?_⟩
    rw [k3, List.take_add_one, hf]
    simp only [List.mem_append, Option.toList_some, List.mem_singleton, exists_or, or_and_right, exists_eq_left]
    constructor
    ·rintro (h | h)
     ·exact .inl h
     ·exact .inr (.inl h)
    ·rintro (h | h | ⟨h, _⟩)
     ·exact .inl h
     ·exact .inr h
     ·exact absurd h hl
  ·rintro t ⟨k1, k3⟩
   refine Ok.ret ⟨k1, fun e => ?_⟩
   rw [k3, h3, List.take_length, List.take_add_one, hd]
   simp only [List.mem_append, Option.toList_some, List.mem_singleton, exists_or, or_and_right, exists_eq_left]
 ·rintro s ⟨h1, h3⟩
  rw [List.take_length] at h3
  have := hlen s h1 fun e he => (h3 e).1 he
  have hno : ¬ 65536 < (s.length : Int) := by omega
  simp only [hno, decide_false, Bool.false_eq_true, if_false]
  exact Ok.ret ⟨Z, Z, Z, hc.symm, Z, h1, h3⟩
end Go.Pw
/- -/
set_option maxHeartbeats 4000000
namespace Go.Pw
theorem Qff {x : System} (hv : VSys x) (hs : x.States ≤ 100) (hl : x.Costs.length ≤ 100) (a : mergeshrink_Abstraction) (most : Int) :
  ∃ c y e, Q7 a x most = some (c, none, y, (a.exact && e)) ∧ JQ x most = some (c, e, y) := by
 have s1 := hv.s1
 obtain ⟨n, hn⟩ : ∃ n : Nat, x.States = (n : Int) := ⟨x.States.toNat, by omega⟩
 have hnt : x.States.toNat = n := by omega
 unfold Q7 JQ
 by_cases hle : x.States ≤ most
 ·have hmx : x.States ≤ 9223372036854775807 := by omega
  refine ⟨idL n, x, true, ?_, ?_⟩
  ·have hsm : JI x.States = some (idL n) := by rw [hn]; exact QfW (by omega)
   simp only [hle, decide_true, if_true, hsm, Option.bind_some, Bool.and_true]
  ·simp only [hle, hmx, decide_true, if_true, must, Option.bind_some]
   rw [hnt, Qeh n (fun i => [(i : Int)]) (s0 := [])]
   ·simp only [Option.bind_some, List.nil_append, Kp]
    rfl
   ·intro i s hi hsl
    rw [Jh (by rw [hsl, List.nil_append, Kp, List.length_map, List.length_range]; simp; omega)]
    rfl
 ·obtain ⟨⟨c, e⟩, h0, h1, c0, hb, hc⟩ := Qjc hv hs hl most
  obtain ⟨⟨c1, e1⟩, b0, h2, hb1⟩ := Qg2 hv hs hl
  obtain ⟨cr, r0, c2, hb2, hcr⟩ := Qjt hv most
  obtain ⟨c3, r1, hb3⟩ := QhC hv (by omega)
  simp only at h1 hc h2 hb1
  subst h1 h2
  obtain rfl := hb.uniq hb1
  obtain rfl := hb.uniq hb2
  obtain rfl := hb.uniq hb3
  rw [← hc] at hcr
  rw [hcr] at r0
  have hk0 : KOK c0 x.States.toNat (Yw (eqL c0) x.States.toNat) := hb.kok
  generalize Yw (eqL c0) x.States.toNat = K0 at hk0 hc
  obtain ⟨m, hm, hm1⟩ := Qe4 most
  rw [hm, show ((m : Int)).toNat = m by omega] at hc
  have hK1 : 1 ≤ K0 := by obtain ⟨k, h, _⟩ := hk0.rng 0 (by omega); omega
  have hkc := QjS (x := x) (by omega) (K0 - m) hk0 (by omega)
  rw [← hc] at hkc
  have hle0 := hk0.le
  generalize K0 - (K0 - m) = K at hkc
  obtain ⟨⟨eq, y⟩, q0, h3, hq⟩ := Qk7 hv hkc
  obtain ⟨⟨br, y'⟩, q1, h4, hq'⟩ := QjY hv hkc
  simp only at h3 hq h4 hq'
  subst h3 h4
  obtain rfl := hq.uniq hq'
  have hmany : JR c0 x.States = some (K0 : Int) := by
   rw [hnt] at hk0
   rw [hn]
   exact Qil hk0 (by omega) (by omega)
  refine ⟨c, y, decide ((K : Int) = (K0 : Int)), ?_, ?_⟩
  ·have hz : (if a.exact = true then ((QQ c).bind fun y105 => (QQ c0).bind fun y106 => some (decide (y105 = y106))) else some false) = some (a.exact && decide ((K : Int) = (K0 : Int))) := by
    cases hx : a.exact with
    | true =>
     rw [if_pos rfl, Qd8 hkc (by omega) (by omega), Qd8 hk0 (by omega) (by omega)]
     rfl
    | false => rfl
   simp only [hle, decide_false, Bool.false_eq_true, if_false, h0, b0, Option.bind_some, QM, Option.isSome_none]
   rw [hz]
   simp only [Option.bind_some, q0, QM]
  ·simp only [hle, decide_false, Bool.false_eq_true, if_false, r0, r1, q1, hmany, Option.bind_some, QM, hq.s]
end Go.Pw
/- -/
set_option maxHeartbeats 4000000
namespace Go.Pw
theorem Qiv (t : Task) (v a : Int) : Ok (forS (fun i102 => fun (goal100 : Bool) => (Qz t.Goal (i102 : Int)).bind fun x103 =>
 some (goal100 && ((!decide (x103.Var = v)) || decide (x103.Val = a)))) (t.Goal.length) 0 true) fun b => b = true ↔ Qgm t v a := by
 refine QO (fun i b => b = true ↔ ∀ f ∈ t.Goal.take i, f.Var = v → f.Val = a) (by simp) ?_ ?_
 ·rintro i b hi hb
  obtain ⟨x, hx⟩ := Qy hi
  simp only [Qn, hx, Option.bind_some]
  refine Ok.ret ?_
  rw [Bool.and_eq_true, hb, QG hx, Bool.or_eq_true, Bool.not_eq_true', decide_eq_false_iff_not, decide_eq_true_iff]
  constructor
  ·rintro ⟨h1, h2⟩ f hf hv
   rcases List.mem_append.1 hf with hf | hf
   ·exact h1 f hf hv
   ·simp only [List.mem_singleton] at hf; subst hf
    rcases h2 with h2 | h2
    ·exact absurd hv h2
    ·exact h2
  ·intro h
   refine ⟨fun f hf hv => h f (by simp [hf]) hv, ?_⟩
   by_cases hv : x.Var = v
   ·exact .inr (h x (by simp) hv)
   ·exact .inl hv
 ·intro b hb
  rw [List.take_length] at hb
  exact hb
theorem Qiw {t : Task} (ht : SmallT t) {v : Int} (h0 : 0 ≤ v) (h1 : v < (t.Vars.length : Int)) : Ok (KW t v) (AtomRes t v) := by
 have hd := Kf ht.g.v h0 h1
 have hno := ht.no
 have hp := ht.p
 have e1 : Qz t.Vars v = some (JO t.Vars v) := Qdu h0 h1
 obtain ⟨x0, hx0, hx1, hx2⟩ := ht.g.init.at h0 h1
 have e2 : Qz t.Init v = some x0 := by unfold Qz; rw [if_pos h0, hx0]
 unfold KW
 simp only [e1, e2, Option.bind_some]
 rw [Yr t.Ops (fun o => [o.Cost]) (s0 := [])]
 rotate_left
 ·intro i o s hi hs
  have hlt := (List.getElem?_eq_some_iff.1 hi).1
  simp only [Qn, hi, Option.bind_some]
  rw [Jh (by rw [hs, Kp]; simp; omega)]
  rfl
 simp only [Option.bind_some, List.nil_append, Kp]
 refine Ok.must (by simp; omega) (Ok.bind ?_)
 refine QO (fun a G => G.length = a ∧ ∀ b, b < a → ∃ z, G[b]? = some z ∧ (z = true ↔ Qgm t v b)) ⟨Z, fun b hb => by omega⟩ ?_ ?_
 ·rintro a G ha ⟨k1, k2⟩
  obtain ⟨b, hb, hb2⟩ := Qiv t v (a : Int)
  refine Ok.step hb ?_
  rw [Jh (by simp only [List.length_singleton]; omega)]
  simp only [Option.bind_some]
  refine Ok.ret ⟨by simp [k1], fun c hc => ?_⟩
  by_cases e : c = a
  ·subst e
   exact ⟨_, by rw [List.getElem?_append_right (by omega), k1, Nat.sub_self]; rfl, hb2⟩
  ·rw [List.getElem?_append_left (by omega)]
   exact k2 c (by omega)
 rintro G ⟨k1, k2⟩
 rw [Qfe ht.g.v ht.g.nv (by omega)]
 have hL := Qar (vars := t.Vars) fun x hx => by have := ht.g.v x hx; omega
 have hLm : ∀ s, s ∈ Jq t.Vars ↔ StateOK t.Vars s := fun s => Qbk
 generalize Jq t.Vars = L at *
 simp only [Option.bind_some]
 refine Ok.bind (QO (fun j E => Srt E ∧ (∀ e, e ∈ E ↔ ∃ (i : Nat) (o : Op) (σ : List Int), t.Ops[i]? = some o ∧ e.Label = (i : Int) ∧ σ ∈ L.take j ∧ σ[v.toNat]? = some e.From ∧ JD o.Pre σ ∧ e.To = YT o.Effs v σ) ∧ E.length ≤ j * 20) ⟨List.Pairwise.nil, by simp, by simp⟩ ?_ ?_)
 ·rintro j E hj ⟨f1, f2, f3⟩
  obtain ⟨σ, hσ⟩ := Qy hj
  have hσm := List.mem_of_getElem? hσ
  have hok := (hLm σ).1 hσm
  obtain ⟨y, hy, hy0, hy1⟩ := hok.at h0 h1
  simp only [Qn, hσ, Option.bind_some]
  refine Ok.bind (QO (fun i E' => Srt E' ∧ (∀ e, e ∈ E' ↔ e ∈ E ∨ ∃ (k : Nat) (o : Op), k < i ∧ t.Ops[k]? = some o ∧ e.Label = (k : Int) ∧ σ[v.toNat]? = some e.From ∧ JD o.Pre σ ∧ e.To = YT o.Effs v σ) ∧ E'.length ≤ E.length + i) ⟨f1, fun e => ⟨fun h => .inl h, fun h => ?_⟩, by simp⟩ ?_ ?_)
  ·rcases h with h | ⟨k, _, hk, _⟩
   ·exact h
   ·omega
  ·rintro i E' hi ⟨g1, g2, g3⟩
   obtain ⟨o, ho⟩ := Qy hi
   have hop := ht.g.op o (List.mem_of_getElem? ho)
   obtain ⟨r, hr, hr1, hr2⟩ := QmJ ht.g ho hok
   rw [hr]
   simp only [Option.bind_some]
   have hnew : ∀ e : Edge, (∃ (k : Nat) (o' : Op), k < i + 1 ∧ t.Ops[k]? = some o' ∧ e.Label = (k : Int) ∧ σ[v.toNat]? = some e.From ∧ JD o'.Pre σ ∧ e.To = YT o'.Effs v σ) ↔
     (∃ (k : Nat) (o' : Op), k < i ∧ t.Ops[k]? = some o' ∧ e.Label = (k : Int) ∧ σ[v.toNat]? = some e.From ∧ JD o'.Pre σ ∧ e.To = YT o'.Effs v σ) ∨ (JD o.Pre σ ∧ e = ⟨y, (i : Int), YT o.Effs v σ⟩) := by
    intro e
    constructor
    ·rintro ⟨k, o', hk, ho', h2, h3, h4, h5⟩
     by_cases he : k = i
     ·subst he
      rw [ho] at ho'; cases ho'
      rw [hy] at h3
      refine .inr ⟨h4, ?_⟩
      cases e
      simp only at *
      rw [h2, h5, ← Zu h3]
     ·exact .inl ⟨k, o', by omega, ho', h2, h3, h4, h5⟩
    ·rintro (⟨k, o', hk, ho', h⟩ | ⟨h2, rfl⟩)
     ·exact ⟨k, o', by omega, ho', h⟩
     ·exact ⟨i, o, by omega, ho, Z, hy, h2, Z⟩
   by_cases hh : JD o.Pre σ
   ·rw [hr1 hh]
    have hat := QdB hok h0 h1 (effs := o.Effs) fun e he => (hop.eff e he).2
    have i1 : Qz σ v = some y := by unfold Qz; rw [if_pos h0, hy]
    have i2 : Qz (JH o.Effs σ) v = some (YT o.Effs v σ) := by unfold Qz; rw [if_pos h0, hat]
    simp only [QM, if_true, i1, i2, Option.bind_some]
    obtain ⟨E2, hE2, q1, q2, q3⟩ := Qdf (l := E') (e := ⟨y, (i : Int), YT o.Effs v σ⟩) g1 (by omega)
    rw [hE2]
    simp only [Option.bind_some]
    refine Ok.ret ⟨q1, fun e => ?_, by omega⟩
    rw [q2, g2, hnew]
    constructor
    ·rintro ((h | h) | h)
     ·exact .inl h
     ·exact .inr (.inl h)
     ·exact .inr (.inr ⟨hh, h⟩)
    ·rintro (h | h | ⟨_, h⟩)
     ·exact .inl (.inl h)
     ·exact .inl (.inr h)
     ·exact .inr h
   ·rw [hr2 hh]
    simp only [QM, Bool.false_eq_true, if_false, Option.bind_some]
    refine Ok.ret ⟨g1, fun e => ?_, by omega⟩
    rw [g2, hnew]
    constructor
    ·rintro (h | h)
     ·exact .inl h
     ·exact .inr (.inl h)
    ·rintro (h | h | ⟨h, _⟩)
     ·exact .inl h
     ·exact .inr h
     ·exact absurd h hh
  ·rintro E' ⟨g1, g2, g3⟩
   refine Ok.ret ⟨g1, fun e => ?_, by rw [Nat.succ_mul]; omega⟩
   rw [g2, f2, QG hσ]
   constructor
   ·rintro (⟨i, o, σ', a1, a2, a3, a4⟩ | ⟨k, o, _, a1, a2, a3⟩)
    ·exact ⟨i, o, σ', a1, a2, List.mem_append_left _ a3, a4⟩
    ·exact ⟨k, o, σ, a1, a2, by simp, a3⟩
   ·rintro ⟨i, o, σ', a1, a2, a3, a4⟩
    rcases List.mem_append.1 a3 with a3 | a3
    ·exact .inl ⟨i, o, σ', a1, a2, a3, a4⟩
    ·simp only [List.mem_singleton] at a3; subst a3
     exact .inr ⟨i, o, (List.getElem?_eq_some_iff.1 a1).1, a1, a2, a4⟩
 ·rintro E ⟨f1, f2, f3⟩
  rw [List.take_length] at f2
  refine Ok.ret ⟨Z, hx0, Z, by simp only; omega, fun a ha => k2 a (by omega), f1, fun e => ?_, by simp only; omega⟩
  simp only
  rw [f2]
  constructor
  ·rintro ⟨i, o, σ, a1, a2, a3, a4, a5, a6⟩
   exact ⟨i, o, a1, a2, σ, (hLm σ).1 a3, a4, a5, a6⟩
  ·rintro ⟨i, o, a1, a2, σ, a3, a4, a5, a6⟩
   exact ⟨i, o, σ, a1, a2, (hLm σ).2 a3, a4, a5, a6⟩
end Go.Pw
/- -/
set_option maxHeartbeats 4000000
namespace Go.Pw
theorem QjZ {n : Nat} {x : System} (h : WS n x) : Ok (KL x) (SP (Kz x true) (QdD x) n) := by
 have hA : AOK (Kz x true) (QdD x) n := h.aok true fun i hi => by have := (List.getElem?_eq_some_iff.1 hi).1; have := h.g; omega
 have hn := h.n1
 have hI : (Inf : Int) = 1125899906842624 := rfl
 unfold KL
 refine Ok.bind (QO (fun i l => l = (x.Goals.take i).map fun g => if g then 0 else Inf) (by simp) ?_ ?_)
 ·rintro i l hi rfl
  obtain ⟨g, hg⟩ := Qy hi
  rw [Qn, hg]
  have hlen : ((x.Goals.take i).map fun g => if g then 0 else Inf).length ≤ 4096 := by have := h.g; simp; omega
  have happ : ∀ d : Int, app 8 ((x.Goals.take i).map fun g => if g then 0 else Inf) [d] = some (((x.Goals.take i).map fun g => if g then 0 else Inf) ++ [d]) := fun d => Jh (by simp at hlen ⊢; omega)
  cases g with
  | true => simp only [Option.bind_some, if_true, happ]; refine Ok.ret ?_; rw [List.take_add_one, hg]; simp
  | false => simp only [Option.bind_some, Bool.false_eq_true, if_false, happ]; refine Ok.ret ?_; rw [List.take_add_one, hg]; simp
 rintro l0 hl0
 rw [List.take_length] at hl0
 have hD0 : Dst (Kz x true) (QdD x) n l0 := by
  subst hl0
  refine ⟨by simp [h.g], fun i y hy => ?_, fun i hi => ?_, fun i y hy hlt => ?_⟩
  ·rw [List.getElem?_map] at hy
   obtain ⟨g, hg, rfl⟩ := Option.map_eq_some_iff.1 hy
   cases g <;> simp
  ·rw [List.getElem?_map, hi]; rfl
  ·rw [List.getElem?_map] at hy
   obtain ⟨g, hg, rfl⟩ := Option.map_eq_some_iff.1 hy
   cases g with
   | true => exact .base hg
   | false => simp at hlt
 refine K3 (fun s : Bool × List Int => Dst (Kz x true) (QdD x) n s.2 ∧ (s.1 = false → ∀ v, QiG (Kz x true) s.2 v)) (fun s => Dst (Kz x true) (QdD x) n s.2 ∧ ∀ v, QiG (Kz x true) s.2 v) (fun _ => False) (fun s => tot s.2 + (if s.1 then 1 else 0)) ⟨hD0, by simp⟩ ?_ (fun _ h => h.elim) ?_
 ·rintro ⟨ch, l⟩ ⟨hD, hcl⟩
  cases ch with
  | false => exact ⟨.brk (false, l), rfl, by simp, fun s' e => by cases e; exact ⟨hD, hcl rfl⟩, by simp⟩
  | true =>
   suffices hpass : Ok (forS (fun i35693 => QM fun (changed36051 : Bool) (l36052 : (List Int)) => (Qz x.Edges (i35693 : Int)).bind fun x36446 =>
     ((Qz l36052 x36446.To).bind fun x36549 =>
     if decide (x36549 < 1125899906842624) then ((Qz x.Costs x36446.Label).bind fun x36562 =>
     (Qz l36052 x36446.From).bind fun x36570 =>
     some (decide ((IntKind.i64.wrap (x36549 + x36562)) < x36570)))
     else (some false)).bind (fun (z36516 : Bool) => (if z36516 then ((Qz l36052 x36446.To).bind fun x36746 =>
     (Qz x.Costs x36446.Label).bind fun x36753 =>
     (Qz l36052 x36446.From).bind fun x36761 =>
     (JG l36052 x36446.From (IntKind.i64.wrap (x36746 + x36753))).bind fun l36766 =>
     some (true, l36766))
     else (some (changed36051, l36052))).bind (QM fun (changed36681 : Bool) (l36682 : (List Int)) => some (changed36681, l36682)))) (x.Edges.length) 0 (false, l))
     (fun s => Dst (Kz x true) (QdD x) n s.2 ∧ (s.1 = true → tot s.2 < tot l) ∧ (s.1 = false → s.2 = l ∧ ∀ v, QiG (Kz x true) l v)) by
    obtain ⟨⟨ch', l'⟩, hr, h1, h2, h3⟩ := hpass
    refine ⟨.next (ch', l'), ?_, fun s' e => ?_, by simp, by simp⟩
    ·show ((forS _ _ 0 (false, l)).bind _) = _
     rw [hr]; rfl
    ·cases e
     cases ch' with
     | true => have := h2 rfl; exact ⟨⟨h1, by simp⟩, by simp; omega⟩
     | false =>
      obtain ⟨e, hc⟩ := h3 rfl
      simp only at e
      subst e
      exact ⟨⟨h1, fun _ => hc⟩, by simp⟩
   refine QO (fun i s => Dst (Kz x true) (QdD x) n s.2 ∧ tot s.2 ≤ tot l ∧ (s.1 = true → tot s.2 < tot l) ∧ (s.1 = false → s.2 = l ∧ ∀ v u (w a b : Int), (∃ d ∈ x.Edges.take i, ∃ k : Nat, d.Label = (k : Int) ∧ x.Costs[k]? = some w ∧ d.To = ((v : Nat) : Int) ∧ d.From = ((u : Nat) : Int)) → l[v]? = some a → l[u]? = some b → a < Inf → b ≤ a + w)) ?_ ?_ ?_
   ·exact ⟨hD, Nat.le_refl _, by simp, fun _ => ⟨Z, by simp⟩⟩
   ·rintro i ⟨ch, k⟩ hi ⟨h1, h2, h3, h4⟩
    simp only at h1 h2 h3 h4
    obtain ⟨d, hd⟩ := Qy hi
    have hdm := List.mem_of_getElem? hd
    obtain ⟨f, t, lb, rfl, hf, ht, c, hc, c0, c1⟩ := h.edge d hdm
    obtain ⟨a, ha⟩ := Qy (xs := k) (i := t) (by rw [h1.len]; exact ht)
    obtain ⟨b, hb⟩ := Qy (xs := k) (i := f) (by rw [h1.len]; exact hf)
    have ra := h1.rng t a ha
    have rb := h1.rng f b hb
    have hw : IntKind.i64.wrap (a + c) = a + c := QA (by omega) (by omega)
    have harc : Kz x true t f c := ⟨_, hdm, lb, rfl, hc, by simp⟩
    have hmore : ∀ (hk : ch = false), ¬ (a < Inf ∧ a + c < b) → k = l ∧ ∀ v u (w a b : Int), (∃ d ∈ x.Edges.take (i + 1), ∃ k : Nat, d.Label = (k : Int) ∧ x.Costs[k]? = some w ∧ d.To = ((v : Nat) : Int) ∧ d.From = ((u : Nat) : Int)) → l[v]? = some a → l[u]? = some b → a < Inf → b ≤ a + w := by
     intro hk hnot
     obtain ⟨e1, e2⟩ := h4 hk
     refine ⟨e1, ?_⟩
     rintro v u w a' b' ⟨d', hd', kk, hl', hc', hv', hu'⟩ ha' hb' hlt
     rw [List.take_add_one, hd] at hd'
     rcases List.mem_append.1 hd' with hd' | hd'
     ·exact e2 v u w a' b' ⟨d', hd', kk, hl', hc', hv', hu'⟩ ha' hb' hlt
     ·simp only [Option.toList_some, List.mem_singleton] at hd'
      subst hd'
      simp only at hl' hv' hu'
      have g1 : lb = kk := by omega
      have g2 : t = v := by omega
      have g3 : f = u := by omega
      subst g1 g2 g3
      rw [hc] at hc'; cases hc'
      rw [e1] at ha hb
      rw [ha] at ha'; cases ha'
      rw [hb] at hb'; cases hb'
      omega
    simp only [QM, Qn, hd, ha, hb, hc, Option.bind_some, hw]
    by_cases hlt : a < 1125899906842624
    ·simp only [hlt, decide_true, if_true, Option.bind_some]
     by_cases hl2 : a + c < b
     ·simp only [hl2, decide_true, if_true, QX (show f < k.length by rw [h1.len]; exact hf), Option.bind_some]
      have ht := Qif (l := k) (u := f) (y := b) (z := a + c) hb (by omega) hl2
      refine Ok.ret ⟨h1.set hA harc ha hb hl2, by simp only; omega, fun _ => by simp only; omega, by simp⟩
     ·simp only [hl2, decide_false, Bool.false_eq_true, if_false, Option.bind_some]
      exact Ok.ret ⟨h1, h2, h3, fun hk => hmore hk (fun hx => hl2 hx.2)⟩
    ·simp only [hlt, decide_false, Bool.false_eq_true, if_false, Option.bind_some]
     exact Ok.ret ⟨h1, h2, h3, fun hk => hmore hk (fun hx => hlt hx.1)⟩
   ·rintro ⟨ch, k⟩ ⟨h1, h2, h3, h4⟩
    refine ⟨h1, h3, fun hk => ⟨(h4 hk).1, ?_⟩⟩
    rintro v u w a b ⟨d, hd, kk, hl, hc, hb⟩ hx hy hlt
    simp only [if_true] at hb
    exact (h4 hk).2 v u w a b ⟨d, by rw [List.take_length]; exact hd, kk, hl, hc, hb.1, hb.2⟩ hx hy hlt
 ·rintro ⟨ch, l⟩ ⟨h1, h2⟩
  exact Ok.ret ⟨h1, h2⟩
end Go.Pw
