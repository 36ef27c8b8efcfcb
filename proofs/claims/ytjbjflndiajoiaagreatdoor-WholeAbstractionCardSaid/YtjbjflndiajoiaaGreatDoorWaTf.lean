/- -/
import Derived.Test.YtjbjflndiajoiaaGreatDoorWaTe
import Derived.Test.YtjbjflndiajoiaaGreatDoorWaTb
import Derived.Test.YtjbjflndiajoiaaGreatDoorWaTc
import Derived.KernelRfl
set_option maxHeartbeats 4000000
set_option linter.unusedSimpArgs false
set_option linter.unusedVariables false
namespace Go.Pw
section
variable {t : Task} {p : List Int} {x : System}
noncomputable def fP (t : Task) (p : List Int) (s : List Int) : Nat := (nP t p s).toNat
theorem QeY (hp : PatOK t p) {s : List Int} (hs : StateOK t.Vars s) : ((fP t p s : Nat) : Int) = nP t p s := by
 have := (Qeg hp hs).1
 unfold fP; omega
theorem Qj5 (ht : GoodT t) (hp : PatOK t p) {l : Nat} {o : Op} (ho : t.Ops[l]? = some o) {s : List Int} (hs : StateOK t.Vars s) : aP t p o s = nP t p (JF o.Effs s) := by
 have hop := ht.op o (List.mem_of_getElem? ho)
 unfold aP nP
 refine QbG fun w hw => ?_
 have hr := hp.rev.r w hw
 have hat := QeD hs hr.1 hr.2 (effs := o.Effs) fun e he => (hop.eff e he).2
 unfold vl
 rw [hat]; rfl
theorem ProjRes.vsys (ht : SmallT t) (hp : PatOK t p) (hx : ProjRes t p x) : VSys x := by
 have hno := ht.g.no
 have hi := Qeg hp ht.g.init
 have hs := hx.s
 have hsl := hx.sl
 have hxi := hx.i
 refine ⟨by omega, by omega, by omega, by omega, hx.gl, by rw [hx.c]; simpa using hno, hx.n, ?_, ?_, ?_⟩
 ·intro c hc
  rw [hx.c] at hc
  obtain ⟨o, ho, rfl⟩ := List.mem_map.1 hc
  exact ⟨(ht.g.op o ho).c0, (ht.g.op o ho).c1⟩
 ·intro d hd'
  obtain ⟨i, o, ho, hl, σ, s1, s2, s3, s4⟩ := (hx.mem d).1 hd'
  have h1 := Qeg hp s1
  have h2 := Qeg hp (QeZ ht.g ho s1)
  rw [Qj5 ht.g hp ho s1] at s4
  have hlt := (List.getElem?_eq_some_iff.1 ho).1
  rw [hs, hx.c, List.length_map]
  omega
 ·intro i d e hd' he
  have hq := List.pairwise_iff_getElem.1 hx.srt
  obtain ⟨h1, rfl⟩ := List.getElem?_eq_some_iff.1 hd'
  obtain ⟨h2, rfl⟩ := List.getElem?_eq_some_iff.1 he
  exact hq i (i + 1) h1 h2 (by omega)
theorem ProjRes.cabs (ht : SmallT t) (hp : PatOK t p) (hx : ProjRes t p x) : CAbs t p x (fP t p) := by
 refine ⟨hx.vsys ht hp, hx.c, fun s hs => ?_, fun s l o hs ho hq => ?_, fun s hs h => ?_⟩
 ·have := Qeg hp hs
  have := QeY hp hs
  have := hx.s
  omega
 ·refine (hx.mem _).2 ⟨l, o, ho, Z, s, hs, (QeY hp hs).symm, hq, ?_⟩
  rw [Qj5 ht.g hp ho hs]
  exact QeY hp (QeZ ht.g ho hs)
 ·have h1 := Qeg hp hs
  have h2 := QeY hp hs
  have h3 := hx.s
  obtain ⟨b, hb, hb2⟩ := hx.g (fP t p s) (by omega)
  rw [hb, hb2.2]
  intro σ hσ hn f hf hv
  rw [Qgc hp hσ hs (by rw [hn, h2]) _ hv]
  exact h f hf hv
theorem QhF (ht : SmallT t) {F : List Int → Nat} (hc : x.Costs = t.Ops.map fun o => o.Cost)
  (he : ∀ (s : List Int) (l : Nat) (o : Op) (c : Nat), StateOK t.Vars s → t.Ops[l]? = some o → Qc8 x (F s) l c → Ki o.Pre s ∧ F (JF o.Effs s) = c)
  (hg : ∀ s, StateOK t.Vars s → x.Goals[F s]? = some true → Ki t.Goal s)
  {i : Nat} {c : Int} (h : Reach (Kz x true) (Qd5 x) i c) : ∀ s, StateOK t.Vars s → F s = i → ∀ j : Nat, rk t.Vars s = (j : Int) → Reach (BA t) (Qd6 t) j c := by
 have hv1 : ∀ n ∈ t.Vars, 1 ≤ n := fun n hn => (ht.g.v n hn).1
 induction h with
 | base hs =>
  rintro s hsok rfl j hj
  exact .base ⟨s, hsok, hj, hg s hsok hs⟩
 | @step v u c w _ ha ih =>
  rintro s hsok rfl j hj
  obtain ⟨d, hd, l, hl, hc', h2⟩ := ha
  simp only [if_true] at h2
  rw [hc, List.getElem?_map] at hc'
  obtain ⟨o, ho, rfl⟩ := Option.map_eq_some_iff.1 hc'
  have hed : Qc8 x (F s) l v := by
   unfold Qc8
   rw [← h2.1, ← h2.2, ← hl]
   exact hd
  obtain ⟨p1, p2⟩ := he s l o v hsok ho hed
  have g1 := QeZ ht.g ho hsok
  have hr := Qef hv1 g1
  exact .step (ih _ g1 p2 (rk t.Vars (JF o.Effs s)).toNat (by omega)) ⟨s, l, o, hsok, ho, p1, Z, by omega, hj⟩
def Qmc (t : Task) (p : List Int) : Prop := ∀ w : Nat, w < t.Vars.length → (w : Int) ∈ p
theorem Qoq (hp : PatOK t p) (ha : Qmc t p) {s s' : List Int} (hs : StateOK t.Vars s) (hs' : StateOK t.Vars s') (h : nP t p s = nP t p s') : s = s' := by
 apply List.ext_getElem?
 intro w
 by_cases hw : w < t.Vars.length
 ·have := Qgc hp hs hs' h (w : Int) (ha w hw)
  rwa [Int.toNat_natCast] at this
 ·rw [List.getElem?_eq_none (by rw [hs.len]; omega), List.getElem?_eq_none (by rw [hs'.len]; omega)]
theorem ProjRes.conv (ht : SmallT t) (hp : PatOK t p) (hx : ProjRes t p x) (ha : Qmc t p) {s : List Int} (hs : StateOK t.Vars s) {c : Int} (h : Reach (Kz x true) (Qd5 x) (fP t p s) c) : Reach (BA t) (Qd6 t) (rk t.Vars s).toNat c := by
 have hv1 : ∀ n ∈ t.Vars, 1 ≤ n := fun n hn => (ht.g.v n hn).1
 have hr := Qef hv1 hs
 refine QhF ht hx.c (fun s l o c hs ho he => ?_) (fun s hs hg f hf => ?_) h s hs Z _ (by omega)
 ·obtain ⟨i, o', ho', hl, σ, s1, s2, s3, s4⟩ := (hx.mem _).1 he
  simp only at hl s2 s4
  obtain rfl : l = i := by omega
  rw [ho] at ho'; cases ho'
  obtain rfl := Qoq hp ha s1 hs (by rw [s2]; exact QeY hp hs)
  rw [Qj5 ht.g hp ho s1] at s4
  refine ⟨s3, ?_⟩
  unfold fP
  rw [← s4]; omega
 ·have h1 := Qeg hp hs
  have h2 := QeY hp hs
  have h3 := hx.s
  obtain ⟨b, hb, hb2⟩ := hx.g (fP t p s) (by omega)
  rw [hb] at hg
  have hr := ht.g.goal.r f hf
  have hm := ha f.Var.toNat (by have := hr.1; have := hr.2.1; omega)
  rw [Int.toNat_of_nonneg hr.1] at hm
  exact hb2.1 (Zu hg) s hs h2.symm f hf hm
theorem CEx.conv (ht : SmallT t) (hown : QmW t) {L : List Int} (hall : Qmc t L) {F : List Int → Nat} (hx : CAbs t L x F) (ex : CEx t L x F) {s : List Int} (hs : StateOK t.Vars s) {c : Int} (h : Reach (Kz x true) (Qd5 x) (F s) c) : Reach (BA t) (Qd6 t) (rk t.Vars s).toNat c := by
 have hv1 : ∀ n ∈ t.Vars, 1 ≤ n := fun n hn => (ht.g.v n hn).1
 have hr := Qef hv1 hs
 refine QhF ht hx.c (fun s l o c hs ho he => ?_) (fun s hs hg f hf => ?_) h s hs Z _ (by omega)
 ·obtain ⟨s', g1, g2, g3⟩ := ex.bw s l o c hs ho he
  obtain ⟨p1, p2⟩ := QnJ ht hown ho hs g1 fun w hw a b ha hb => g3 (w : Int) (hall w hw) a b (by rw [Int.toNat_natCast]; exact ha) (by rw [Int.toNat_natCast]; exact hb)
  exact ⟨p1, by rw [p2, g2]⟩
 ·have hr := ht.g.goal.r f hf
  have hm := hall f.Var.toNat (by have := hr.1; have := hr.2.1; omega)
  rw [Int.toNat_of_nonneg hr.1] at hm
  exact ex.gl s hs hg f hf hm
end
end Go.Pw
/- -/
set_option maxHeartbeats 8000000
namespace Go.Pw
theorem QpY (xs ys : List Int) : Ja xs ys = some (decide (xs = ys)) := QnU xs ys
theorem Qli (n : Nat) : (idL n).Pairwise fun a b => a ≤ b := by
 unfold idL
 refine List.pairwise_map.2 (List.Pairwise.imp ?_ (List.pairwise_lt_range (n := n)))
 intro a b h; omega
theorem Qm0 (n : Nat) : (idL n).Nodup := by
 unfold idL
 refine List.pairwise_map.2 (List.Pairwise.imp ?_ (List.nodup_range (n := n)))
 intro a b h e; omega
theorem QgY {n : Nat} {w : Int} : w ∈ idL n ↔ 0 ≤ w ∧ w < (n : Int) := by
 simp only [idL, List.mem_map, List.mem_range]
 constructor
 ·rintro ⟨i, hi, rfl⟩; omega
 ·rintro ⟨h0, h1⟩; exact ⟨w.toNat, by omega, by omega⟩
theorem Qml {l : List Int} {n : Nat} (h : l.length * 8 ≤ 140737488351232) : ∃ k, JT l = some k ∧ (k = idL n ↔ l.Perm (idL n)) := by
 obtain ⟨k, h1, h2, h3⟩ := Qep (l := l) (by omega)
 refine ⟨k, ?_, fun e => e ▸ h2.symm, fun hp => ?_⟩
 ·unfold JT QdK
  rw [if_pos h]
  simp only [Option.bind_some, h1]
 ·exact List.Perm.eq_of_pairwise (fun a b _ _ h1 h2 => by omega) h3 (Qli n) (h2.trans hp)
theorem QnF {t : Task} {order : List Int} (h : order.Perm (idL t.Vars.length)) : OrdOK t order :=
 ⟨h.nodup_iff.2 (Qm0 _), fun w hw => QgY.1 (h.mem_iff.1 hw)⟩
structure BRes (t : Task) (order : List Int) (most : Int) (a : mergeshrink_Abstraction) (x : System) (F : List Int → Nat) : Prop where
 vars : a.vars = t.Vars
 i : CAbs t order x F
 e : a.exact = true → CEx t order x F
 m : x.States ≤ max 1 (min most 4096)
 f : JW t.Vars ≤ max 1 (min most 4096) → a.exact = true
 v : VOK t a.stages F
 d : SP (Kz x true) (Qd5 x) x.States.toNat a.distance
theorem Qh5 {t : Task} (ht : SmallT t) (hp : JW t.Vars ≤ 256) (hc3 : ∀ o ∈ t.Ops, (cE o).length ≤ 3) {order : List Int} (hl : order.length * 8 ≤ 140737488351232) (most : Int) (hms : JW t.Vars ≤ max 1 (min most 4096) ∨ max 1 (min most 4096) ≤ 100) (hperm : order.Perm (idL t.Vars.length)) :
  ∃ a x F, JG t order most = some (some a, none) ∧ BRes t order most a x F := by
 have hnm := QeA ht.g
 obtain ⟨e, he, hg⟩ := Qf9 t hnm
 have := hg.2 ht.g
 subst this
 obtain ⟨k, hk1, hk2⟩ := Qml (l := order) (n := t.Vars.length) hl
 have hnv := ht.nv
 have hlen : order.length = t.Vars.length := by rw [hperm.length_eq, Qjz]
 have hcl : Qu t.Vars = some t.Vars := by
  unfold Qu
  rw [JB (by simp; omega)]
  rfl
 unfold JG
 rw [he, hk1, QlD (by omega)]
 simp only [Option.bind_some, Option.isSome_none, Bool.false_eq_true, if_false, QpY, hk2.2 hperm, decide_true, Bool.not_true]
 rw [hcl]
 simp only [Option.bind_some]
 suffices hC : ∃ x zs ex F, QE ⟨t.Vars, [], [], true⟩ t order (max 1 (min most 4096)) = some (none, x, zs, ex) ∧ CAbs t order x F ∧ (ex = true → CEx t order x F) ∧ x.States ≤ max 1 (min most 4096) ∧ (JW t.Vars ≤ max 1 (min most 4096) → ex = true) ∧ VOK t zs F by
  obtain ⟨x, zs, ex, F, hr, h1, h2, h3, h4, h5⟩ := hC
  obtain ⟨⟨d, e⟩, hd, g3, g4⟩ := QoR h1.v
  simp only at g3 g4
  subst g3
  refine ⟨⟨t.Vars, zs, d, ex⟩, x, F, ?_, Z, h1, h2, h3, h4, h5, g4⟩
  rw [hr]
  simp only [Option.bind_some, un4, Option.isSome_none, Bool.false_eq_true, if_false]
  rw [hd]
  rfl
 by_cases hne : 0 < order.length
 ·obtain ⟨⟨e, x, zs, ex⟩, hr, h2, F, hF⟩ := QjF ht hp hc3 (QnF hperm) hne (most := max 1 (min most 4096)) (by omega) (by omega) hms t.Vars
  simp only at h2 hF
  subst h2
  exact ⟨x, zs, ex, F, hr, hF.i.abs, hF.e, hF.m, fun h => (hF.f h).1, hF.v⟩
 ·obtain rfl : order = [] := List.length_eq_zero_iff.1 (by omega)
  have hP : PatOK t [] := ⟨by simp, by simp⟩
  obtain ⟨⟨e, x⟩, hx, a1, a2, a3, a4⟩ := Qhw (t := t) (p := []) hnm (by simp)
  have he : e = none := a3 ht.g (by simp) (by simp [Asc]) (ht.roomP hP)
  subst he
  have hX : ProjRes t [] x := (a1 rfl).2.2
  have hs1 : x.States = 1 := by have := hX.s; simpa [JW] using this
  have hf0 : ∀ s, fP t [] s = 0 := fun s => by unfold fP nP; simp [Qbe]
  refine ⟨x, [], true, fP t [], ?_, hX.cabs ht hP, fun _ => ⟨fun s l o c hs ho he => ?_, fun s hs hg q hq hm => by simp at hm⟩, by omega, fun _ => rfl, fun s hs => ?_⟩
  ·unfold QE
   simp only [List.length_nil, Int.natCast_zero, decide_true, if_true]
   rw [hx]
   rfl
  ·have hr := Qbj (hX.vsys ht hP) he
   obtain ⟨u, l1, v, h1, _, _, hv⟩ := hr
   simp only [Edge.mk.injEq] at h1
   refine ⟨s, hs, ?_, by simp⟩
   rw [hf0]
   omega
  ·simp only [vf, hf0]
   rfl
section
variable {t : Task} {order : List Int} {most : Int} {a : mergeshrink_Abstraction} {x : System} {F : List Int → Nat}
theorem BRes.val (h : BRes t order most a x F) {s : List Int} (hs : StateOK t.Vars s) : ∃ d, a.distance[F s]? = some d ∧ Qk a s = some d := by
 obtain ⟨d, hd⟩ := Qt (xs := a.distance) (i := F s) (by rw [h.d.len]; exact h.i.r s hs)
 exact ⟨d, hd, Qn5 (by rw [h.vars]; exact hs) (h.v s hs) hd⟩
theorem QpK (a : mergeshrink_Abstraction) : QT a = (a.distance.length : Int) := by
 have h := Kg a
 unfold Jo at h
 exact (Zu h).symm
theorem QlN (a : mergeshrink_Abstraction) : QA a = a.exact := by
 have h := QJ a
 unfold Jh at h
 exact (Zu h).symm
theorem BRes.size (h : BRes t order most a x F) : (a.distance.length : Int) = x.States := by
 have := h.i.v.s1
 rw [h.d.len]; omega
theorem BRes.le (ht : SmallT t) (h : BRes t order most a x F) {k : List Int} (hk : SP (BA t) (Qd6 t) (JW t.Vars).toNat k) {s : List Int} (hs : StateOK t.Vars s) :
  ∃ d b, Qk a s = some d ∧ k[(rk t.Vars s).toNat]? = some b ∧ d ≤ b ∧ (QmW t → order.Perm (idL t.Vars.length) → a.exact = true → d = b) := by
 obtain ⟨d, b, h1, h2, h3, h4, h5⟩ := Qkv ht h.i h.d hk hs
 obtain ⟨d', e1, e2⟩ := h.val hs
 rw [h1] at e1
 cases e1
 exact ⟨d, b, e2, h2, h4, fun ho hperm hx => h5 fun c hc => (h.e hx).conv ht ho (fun w hw => hperm.mem_iff.2 (QgY.2 (by omega))) h.i hs hc⟩
end
end Go.Pw
/- -/
set_option maxHeartbeats 8000000
namespace Go.Pw
structure DOk (t : Task) (p : List Int) (d : pdb_Database) (x : System) : Prop where
 vars : d.vars = t.Vars
 pat : d.pattern = p
 ok : PatOK t p
 r : ProjRes t p x
 d : SP (Kz x true) (Qd5 x) x.States.toNat d.table
theorem QnM : QP [] = some false := by
 unfold QP Jw
 rfl
theorem Qj3 {xs : List Int} (h : xs.length * 8 ≤ 140737488355328) : Qu xs = some xs := by
 unfold Qu
 rw [JB (by simpa using h)]
 rfl
theorem QkS {t : Task} (ht : SmallT t) {p : List Int} (hl : p.length ≤ 4611686018427387904) :
  Ok (Qac t p []) fun r => (∃ d x, r = (some d, none) ∧ DOk t p d x) ∨ ((∃ e, r = (none, some e)) ∧ ¬ ((∀ w ∈ p, 0 ≤ w ∧ w < (t.Vars.length : Int)) ∧ Asc p)) := by
 have hnm := QeA ht.g
 obtain ⟨e, he, hg⟩ := Qf9 t hnm
 have := hg.2 ht.g
 subst this
 have hnv := ht.nv
 unfold Qac
 rw [he]
 simp only [Option.bind_some, Option.isSome_none, Bool.false_eq_true, if_false, List.length_nil, Int.natCast_zero, Int.lt_irrefl, decide_false, Bool.false_and, QnM, decide_true, if_true]
 obtain ⟨⟨e, x⟩, hx, a1, a2, a3, a4⟩ := Qhw (t := t) (p := p) hnm hl
 simp only at a1 a2 a3 a4
 rw [hx]
 simp only [Option.bind_some, QI]
 cases e with
 | some e =>
  simp only [Option.isSome_some, if_true]
  refine Ok.ret (.inr ⟨⟨e, Z⟩, fun h => ?_⟩)
  have := a3 ht.g h.1 h.2 (ht.roomP ⟨h.1, QiY h.2⟩)
  cases this
 | none =>
  obtain ⟨_, hp, hr⟩ := a1 rfl
  have hlen := hp.len
  have hv := hr.vsys ht hp
  have hD := Qct ht.g.v hp.n hp.r
  have hP := ht.p
  have hs := hr.s
  obtain ⟨tb, htb, hsp⟩ := QnG hv.ws (by omega)
  simp only [Option.isSome_none, Bool.false_eq_true, if_false]
  rw [Qj3 (xs := t.Vars) (by omega), Qj3 (xs := p) (by omega)]
  simp only [Option.bind_some, htb]
  exact Ok.ret (.inl ⟨_, x, Z, Z, Z, hp, hr, hsp⟩)
open Classical in
theorem Qn7 (vars s : List Int) : KY vars s = some (decide (StateOK vars s)) := Qhq vars s
theorem DOk.val {t : Task} (ht : SmallT t) {p : List Int} {d : pdb_Database} {x : System} (h : DOk t p d x) {k : List Int} (hk : SP (BA t) (Qd6 t) (JW t.Vars).toNat k) {s : List Int} (hs : StateOK t.Vars s) :
  ∃ a b, QR d s = some a ∧ d.table[fP t p s]? = some a ∧ k[(rk t.Vars s).toNat]? = some b ∧ a ≤ b ∧ (Qmc t p → a = b) := by
 obtain ⟨a, b, h1, h2, h3, h4, h5⟩ := Qkv ht (h.r.cabs ht h.ok) h.d hk hs
 refine ⟨a, b, ?_, h1, h2, h4, fun hall => h5 fun c hc => h.r.conv ht h.ok hall hs hc⟩
 have hD := Qct ht.g.v h.ok.n h.ok.r
 have hP := ht.p
 have hnum := Qgl (t := t) (p := p) (s := s) ht.g.v h.ok (by omega) fun w hw => QeP hs (h.ok.r w hw).1 (h.ok.r w hw).2
 unfold QR
 rw [h.vars, h.pat, Qn7]
 simp only [hs, decide_true, Option.bind_some, Bool.not_true, Bool.false_eq_true, if_false]
 unfold JX at hnum
 obtain ⟨n, hn1, hn2⟩ := V hnum
 cases hn2
 rw [hn1]
 simp only [Option.bind_some]
 rw [← QeY h.ok hs, Qo, h1]
 rfl
end Go.Pw
/- -/
set_option maxHeartbeats 8000000
namespace Go.Pw
structure TameT (t : Task) : Prop where
 s : SmallT t
 v : ∀ n ∈ t.Vars, 2 ≤ n ∧ n ≤ 4
 c : ∀ o ∈ t.Ops, (cE o).length ≤ 3
theorem QlS {o : Op} {i : Nat} {e : Effect} (he : o.Effs[i]? = some e) : ((o.Effs.take (i + 1)).filter fun e => !e.When.isEmpty).length = ((o.Effs.take i).filter fun e => !e.When.isEmpty).length + (if 0 < e.When.length then 1 else 0) := by
 rw [Q6 he, List.filter_append, List.length_append]
 congr 1
 cases h : e.When with
 | nil => simp [h]
 | cons a l => simp [h]
theorem Qo6 (t : Task) : Ok (QbZ t) fun b => b = true → TameT t := by
 classical
 unfold QbZ
 rw [QnA]
 simp only [Option.bind_some]
 by_cases h : SmallT t
 rotate_left
 ·simp only [h, decide_false, Bool.not_false, if_true]
  exact Ok.ret (by simp)
 simp only [h, decide_true, Bool.not_true, Bool.false_eq_true, if_false]
 refine Ok.ctl (fun i _ => ∀ n ∈ t.Vars.take i, 2 ≤ n ∧ n ≤ 4) (fun r => r = false) (by simp) ?_ (by rintro r rfl; exact Ok.ret (by simp)) ?_
 ·intro i _ hi hI
  obtain ⟨n, hn⟩ := Qt hi
  simp only [Qo, hn, Option.bind_some]
  by_cases h1 : n < 2
  ·simp only [h1, decide_true, Bool.true_or, if_true]
   exact Ok.ret Z
  by_cases h2 : 4 < n
  ·simp only [h2, decide_true, Bool.or_true, if_true]
   exact Ok.ret Z
  simp only [h1, h2, decide_false, Bool.or_false, Bool.false_eq_true, if_false]
  refine Ok.ret fun m hm => ?_
  rw [Q6 hn] at hm
  rcases List.mem_append.1 hm with hm | hm
  ·exact hI m hm
  ·simp at hm; omega
 intro _ hV
 rw [List.take_length] at hV
 refine Ok.ctl (fun i _ => ∀ o ∈ t.Ops.take i, (cE o).length ≤ 3) (fun r => r = false) (by simp) ?_ (by rintro r rfl; exact Ok.ret (by simp)) ?_
 ·intro i _ hi hI
  obtain ⟨o, ho⟩ := Qt hi
  have hne := h.ne o (List.mem_of_getElem? ho)
  simp only [Qo, ho, Option.bind_some]
  refine Ok.ctl (fun i m => m = (((o.Effs.take i).filter fun e => !e.When.isEmpty).length : Int)) (fun r => r = false) (by simp) ?_ (by rintro r rfl; exact Ok.ret rfl) ?_
  ·rintro j m hj rfl
   obtain ⟨e, he⟩ := Qt hj
   have hl := List.length_filter_le (fun e : Effect => !e.When.isEmpty) (o.Effs.take j)
   rw [List.length_take] at hl
   simp only [he, Option.bind_some]
   by_cases h1 : 2 < (e.When.length : Int)
   ·simp only [h1, decide_true, if_true]
    exact Ok.ret Z
   simp only [h1, decide_false, Bool.false_eq_true, if_false]
   by_cases h2 : 0 < (e.When.length : Int)
   ·simp only [h2, decide_true, if_true, Option.bind_some]
    refine Ok.ret ?_
    show _ = _
    rw [QlS he, if_pos (by omega), QD (by omega) (by omega)]
    omega
   ·simp only [h2, decide_false, Bool.false_eq_true, if_false, Option.bind_some]
    refine Ok.ret ?_
    show _ = _
    rw [QlS he, if_neg (by omega)]
    omega
  ·rintro m rfl
   rw [List.take_length]
   by_cases h1 : 3 < (((o.Effs.filter fun e => !e.When.isEmpty).length : Nat) : Int)
   ·simp only [h1, decide_true, if_true]
    exact Ok.ret Z
   simp only [h1, decide_false, Bool.false_eq_true, if_false]
   refine Ok.ret fun o' ho' => ?_
   rw [Q6 ho] at ho'
   rcases List.mem_append.1 ho' with ho' | ho'
   ·exact hI o' ho'
   ·simp only [List.mem_singleton] at ho'
    subst ho'
    unfold cE; omega
 ·intro _ hC
  rw [List.take_length] at hC
  exact Ok.ret fun _ => ⟨h, hV, hC⟩
theorem QoD : ∀ {l : List Int}, (∀ n ∈ l, 2 ≤ n ∧ n ≤ 4) → l.length ≤ 4 → JW l ≤ 256 := by
 have key : ∀ {l : List Int}, (∀ n ∈ l, 2 ≤ n ∧ n ≤ 4) → 1 ≤ JW l ∧ JW l ≤ 4 ^ l.length := by
  intro l
  induction l with
  | nil => intro _; simp [JW]
  | cons a l ih =>
   intro h
   obtain ⟨h1, h2⟩ := ih fun n hn => h n (by simp [hn])
   obtain ⟨h3, h4⟩ := h a (by simp)
   have e : JW (a :: l) = a * JW l := rfl
   rw [e, List.length_cons, Int.pow_succ, Int.mul_comm (4 ^ l.length)]
   have := Int.mul_le_mul h4 h2 (by omega) (by omega)
   have := Int.mul_le_mul (show 1 ≤ a by omega) h1 (by omega) (by omega)
   omega
 intro l h hl
 obtain ⟨_, h2⟩ := key h
 have : l.length = 0 ∨ l.length = 1 ∨ l.length = 2 ∨ l.length = 3 ∨ l.length = 4 := by omega
 rcases this with e | e | e | e | e <;> rw [e] at h2 <;> omega
theorem Qop (n : Nat) (hn : n ≤ 4096) : forS (fun i100 => fun (all100 : (List Int)) => (app 8 all100 [(i100 : Int)]).bind fun l100 => some l100) n 0 [] = some (idL n) := by
 refine Ok.eq (QQ (fun i l => l = idL i) (by simp [idL]) ?_ (fun _ h => h))
 rintro i l hi rfl
 rw [JB (by simp [idL]; omega)]
 refine Ok.ret ?_
 simp [idL, List.range_succ]
theorem QnK (t : Task) : Ok (forS (fun i101 => fun (own100 : Bool) => (Q9 t.Ops (i101 : Int)).bind fun x100 =>
 (forS (fun i102 => fun (own101 : Bool) => (Q9 x100.Effs (i102 : Int)).bind fun x101 =>
 (forS (fun i103 => fun (own102 : Bool) => (Q9 x101.When (i103 : Int)).bind fun x102 =>
 some (own102 && decide (x102.Var = x101.Var))) (x101.When.length) 0 own101).bind (fun (own102 : Bool) => some own102)) (x100.Effs.length) 0 own100).bind (fun (own101 : Bool) => some own101)) (t.Ops.length) 0 true) fun b => b = true → QmW t := by
 refine QQ (fun i b => b = true → ∀ o ∈ t.Ops.take i, ∀ e ∈ o.Effs, ∀ f ∈ e.When, f.Var = e.Var) (by simp) ?_ (fun b hb h => by have := hb h; rw [List.take_length] at this; exact this)
 intro i b hi hb
 obtain ⟨o, ho⟩ := Qt hi
 simp only [Qo, ho, Option.bind_some]
 refine Ok.bind (QQ (fun j b' => b' = true → b = true ∧ ∀ e ∈ o.Effs.take j, ∀ f ∈ e.When, f.Var = e.Var) (by simp) ?_ ?_)
 ·intro j b' hj hb'
  obtain ⟨e, he⟩ := Qt hj
  simp only [he, Option.bind_some]
  refine Ok.bind (QQ (fun k b'' => b'' = true → b' = true ∧ ∀ f ∈ e.When.take k, f.Var = e.Var) (by simp) ?_ ?_)
  ·intro k b'' hk hb''
   obtain ⟨f, hf⟩ := Qt hk
   simp only [hf, Option.bind_some]
   refine Ok.ret fun h => ?_
   obtain ⟨h1, h2⟩ := Bool.and_eq_true_iff.1 h
   obtain ⟨h3, h4⟩ := hb'' h1
   refine ⟨h3, fun f' hf' => ?_⟩
   rw [Q6 hf] at hf'
   rcases List.mem_append.1 hf' with hf' | hf'
   ·exact h4 f' hf'
   ·simp only [List.mem_singleton] at hf'; subst hf'; exact of_decide_eq_true h2
  ·intro b'' hb''
   rw [List.take_length] at hb''
   refine Ok.ret fun h => ?_
   obtain ⟨h1, h2⟩ := hb'' h
   obtain ⟨h3, h4⟩ := hb' h1
   refine ⟨h3, fun e' he' => ?_⟩
   rw [Q6 he] at he'
   rcases List.mem_append.1 he' with he' | he'
   ·exact h4 e' he'
   ·simp only [List.mem_singleton] at he'; subst he'; exact h2
 ·intro b' hb'
  rw [List.take_length] at hb'
  refine Ok.ret fun h => ?_
  obtain ⟨h1, h2⟩ := hb' h
  intro o' ho'
  rw [Q6 ho] at ho'
  rcases List.mem_append.1 ho' with ho' | ho'
  ·exact hb h1 o' ho'
  ·simp only [List.mem_singleton] at ho'; subst ho'; exact h2
theorem QoZ (n : Nat) : Asc (idL n) := by
 unfold idL Asc
 refine List.pairwise_map.2 (List.Pairwise.imp ?_ (List.pairwise_lt_range (n := n)))
 intro a b h; omega
end Go.Pw
/- -/
set_option maxHeartbeats 8000000
set_option maxRecDepth 100000
namespace Go.Pw
abbrev exT : Task := ⟨[2], [0], [⟨0, 1⟩], [⟨⟨#[]⟩, 2, [], [⟨[], 0, 1⟩]⟩]⟩
abbrev exC : Certificate := ⟨2, [⟨[⟨0, 1⟩], 0⟩]⟩
theorem Qg2 {s : List Int} : StateOK [2] s ↔ s ∈ [[0], ([1] : List Int)] := by
 rw [← QaW]
 have : QN [2] = [[0], [1]] := by decide
 rw [this]
theorem QjZ {o : Op} (h : o ∈ exT.Ops) : o = ⟨⟨#[]⟩, 2, [], [⟨[], 0, 1⟩]⟩ := by simpa [exT] using h
theorem Qj0 : GoodT exT := by
 have f0 : FactsOK [2] [] := ⟨by simp, by simp⟩
 refine ⟨by simp [exT], by simp [exT], by simp [exT], Qg2.2 (by simp [exT]), ⟨by simp [exT, InR], by simp [exT]⟩, fun o ho => ?_⟩
 obtain rfl := QjZ ho
 refine ⟨by simp, by simp, by simp, Nat.zero_le _, by simp [bytesOf], ⟨by simp [exT, InR], by simp⟩, by simp [exT, InR, f0]⟩
theorem Qkt : Kr exT = some none := by
 obtain ⟨e, he, hg⟩ := Qf9 exT (QeA Qj0)
 rw [he, hg.2 Qj0]
theorem QoO (h : List certify_entry) : Y0 h 0 0 = some false := by
 unfold Y0
 rw [QcZ (c := .brk ()) (by rfl) (by simp)]
 rfl
theorem Qj1 (h : List certify_entry) : Jm h = (h.length : Int) := by
 have e := KU h
 unfold JZ at e
 exact (Zu e).symm
theorem QpR : YK [⟨[⟨0, 1⟩], 0, 0⟩] = some (⟨[⟨0, 1⟩], 0, 0⟩, []) := by
 unfold YK
 have e : Ku [⟨[⟨0, 1⟩], 0, 0⟩] 0 0 = some [⟨[⟨0, 1⟩], 0, 0⟩] := by kernel_rfl
 have w : IntKind.i64.wrap (((([⟨[⟨0, 1⟩], 0, 0⟩] : List certify_entry).length : Nat) : Int) - 1) = 0 := by decide
 rw [Qj1, w, e]
 simp only [Option.bind_some, QoO]
 show (KQ [⟨[⟨0, 1⟩], 0, 0⟩]).bind _ = _
 kernel_rfl
theorem Qob : YP exT 2 10 = some (none, exC) := by
 unfold YP
 rw [Qkt]
 have hb : Yh 2 = true := by
  have h := Qcr 2
  unfold Yi at h
  rw [← Zu h]; decide
 have hf : Qdb exT.Goal = some exT.Goal := by kernel_rfl
 simp only [Option.bind_some, Option.isSome_none, Bool.false_eq_true, if_false, hb, Bool.not_true, hf, show ¬ (2 : Int) = 0 by decide, decide_false]
 have hc : Yj [⟨0, 1⟩] [] = some false := by kernel_rfl
 have hh : Qbn [⟨0, 1⟩] [0] = some false := by kernel_rfl
 rw [Qg5 (s' := ([⟨[⟨0, 1⟩], 0⟩], [])), QcZ (c := .brk ([⟨[⟨0, 1⟩], 0⟩], []))]
 ·rfl
 ·simp only [QI, Qj1]; rfl
 ·simp
 ·simp only [QI, Qj1, QpR, hc, hh, Option.bind_some, Bool.false_eq_true, if_false]
  rfl
theorem Qm7 : Yk exC = some (⟨#[108, 111, 119, 101, 114, 32, 50, 10, 110, 111, 103, 111, 111, 100, 32, 48, 58, 32, 48, 61, 49, 10]⟩, none) := by
 kernel_rfl
theorem Qm6 : Y3 exT exC 100 = some none := by
 unfold Y3 QaF
 rw [Qkt]
 kernel_rfl
theorem Qi0 : J3 = some true := by
 unfold J3
 rw [Qob]
 simp only [Option.bind_some, QI, Qm7, Qm6]
 kernel_rfl
end Go.Pw
/- -/
set_option maxHeartbeats 8000000
namespace Go.Pw
theorem Qbi : SmallT exT := ⟨Qj0, by simp, by simp, fun o ho => by obtain rfl := QjZ ho; simp, by simp [JW]⟩
theorem Qqr : ∀ o ∈ exT.Ops, (cE o).length ≤ 3 := fun o ho => by obtain rfl := QjZ ho; simp [cE]
theorem QpS : QmW exT := by
 intro o ho
 obtain rfl := QjZ ho
 simp
theorem Qns : rk exT.Vars [0] = 0 := by decide
theorem Qnr : rk exT.Vars [1] = 1 := by decide
theorem QpQ {i : Nat} {c : Int} (h : Reach (BA exT) (Qd6 exT) i c) : i = 0 → 2 ≤ c := by
 cases h with
 | base hs =>
  rintro rfl
  obtain ⟨s, hs, h1, h2⟩ := hs
  have h3 := Qg2.1 hs
  simp only [List.mem_cons, List.not_mem_nil, or_false] at h3
  rcases h3 with rfl | rfl
  ·exfalso; revert h2; simp [Ki]
  ·rw [Qnr] at h1; omega
 | step hr ha =>
  intro _
  have := hr.pos (Qjn Qbi)
  obtain ⟨s', l, o, hs', ho, hp, rfl, h1, h2⟩ := ha
  obtain rfl := QjZ (List.mem_of_getElem? ho)
  simp only
  omega
theorem Qoa : Reach (BA exT) (Qd6 exT) 0 2 := by
 have h1 : Reach (BA exT) (Qd6 exT) 1 0 := .base ⟨[1], Qg2.2 (by simp), rfl, by simp [Ki]⟩
 exact Reach.step (u := 0) (w := 2) h1 ⟨[0], 0, _, Qg2.2 (by simp), Z, by simp [Ki], Z, by simp [JF, Ki, rk, rkZ], Z⟩
theorem QlO {k : List Int} (hk : SP (BA exT) (Qd6 exT) (JW exT.Vars).toNat k) : k[0]? = some 2 ∧ k[1]? = some 0 := by
 constructor
 ·obtain ⟨z, hz, hz3⟩ := hk.le (Qjn Qbi) Qoa (by decide)
  have h := QpQ (hk.re _ _ hz (Int.lt_of_le_of_lt hz3 (by decide))) rfl
  rw [hz]
  congr 1; omega
 ·exact hk.s0 1 ⟨[1], Qg2.2 (by simp), Z, by simp [Ki]⟩
theorem Qie : Jv = some true := by
 refine Ok.eq ?_
 obtain ⟨k, hk, hsp⟩ := Qh6 Qbi
 obtain ⟨k0, k1⟩ := QlO hsp
 obtain ⟨r, hr, hc⟩ := QkS Qbi (p := [0]) (by simp)
 unfold Jv
 rcases hc with ⟨d, x, rfl, hd⟩ | ⟨_, hbad⟩
 rotate_left
 ·exact absurd ⟨by simp, by simp [Asc]⟩ hbad
 have hall : Qmc exT [0] := by
  intro w hw
  have : w = 0 := by simp at hw; omega
  subst this; simp
 have hS := hd.r.s
 have hS' : x.States = 2 := by simpa [JW, Ka] using hS
 have hl := hd.d.len
 rw [hS'] at hl
 obtain ⟨a, b, _, h1, h2, _, h3⟩ := hd.val Qbi hsp (s := [0]) (Qg2.2 (by simp))
 obtain ⟨a', b', _, g1, g2, _, g3⟩ := hd.val Qbi hsp (s := [1]) (Qg2.2 (by simp))
 have e1 := h3 hall
 have e2 := g3 hall
 subst e1 e2
 rw [Qns] at h2
 rw [Qnr] at g2
 have f0 : fP exT [0] [0] = 0 := by decide
 have f1 : fP exT [0] [1] = 1 := by decide
 rw [f0] at h1
 rw [f1] at g1
 have h2' : k[0]? = some a := h2
 have g2' : k[1]? = some a' := g2
 rw [k0] at h2'
 rw [k1] at g2'
 cases h2'; cases g2'
 have ht : d.table = [2, 0] := by
  match hd2 : d.table with
  | [u, v] => rw [hd2] at h1 g1; simp at h1 g1; rw [h1, g1]
  | [] => rw [hd2] at hl; simp at hl
  | [_] => rw [hd2] at hl; simp at hl
  | _ :: _ :: _ :: _ => rw [hd2] at hl; simp at hl
 have hT : Kw d = some [2, 0] := by
  unfold Kw
  rw [ht, Qj3 (by simp)]
  rfl
 rw [hr]
 simp only [Option.bind_some, QI, QgH, Option.isNone_none, must, if_true, hT, QpX, decide_true, Qi0]
 exact Ok.ret Z
theorem Qom : Jb = some true := by
 refine Ok.eq ?_
 obtain ⟨k, hk, hsp⟩ := Qh6 Qbi
 obtain ⟨k0, k1⟩ := QlO hsp
 have hp : ([0] : List Int).Perm (idL exT.Vars.length) := by decide
 obtain ⟨a, x, F, ha, hA⟩ := Qh5 Qbi (by simp [JW]) Qqr (order := [0]) (by simp) 100 (.inl (by simp only [JW]; decide)) hp
 have hex : a.exact = true := hA.f (by simp only [JW]; decide)
 obtain ⟨d, b, h1, h2, h3, h4⟩ := hA.le Qbi hsp (s := [0]) (Qg2.2 (by simp))
 have e := h4 QpS hp hex
 subst e
 rw [Qns] at h2
 have h2' : k[0]? = some d := h2
 rw [k0] at h2'
 cases h2'
 unfold Jb
 rw [ha]
 simp only [Option.bind_some, QI, QgH, Option.isNone_none, must, if_true, h1, decide_true, QlN, hex, Qie]
 exact Ok.ret Z
end Go.Pw
/- -/
set_option maxHeartbeats 8000000
namespace Go.Pw
theorem Qme (t : Task) (p : List Int) (most : Int) (hl : p.length * 8 ≤ 140737488351232) (hm : 0 ≤ most ∧ most < 65536) : J6 t p most = some true := by
 classical
 refine Ok.eq ?_
 unfold J6
 simp only [Qom]
 obtain ⟨b, hb, htm⟩ := Qo6 t
 rw [hb]
 simp only [Option.bind_some]
 have hdone : Ok (if true = true then some true else none) (fun r : Bool => r = true) := Ok.ret rfl
 cases b with
 | false =>
  simp only [Bool.not_false, if_true, Option.bind_some]
  exact Ok.ret Z
 | true =>
 have hT := htm rfl
 have ht := hT.s
 by_cases h4 : 4 < (t.Vars.length : Int)
 ·simp only [h4, decide_true, Bool.not_true, Bool.false_eq_true, if_false, if_true, Option.bind_some]
  exact Ok.ret Z
 by_cases h5 : 4 < (p.length : Int)
 ·simp only [h4, h5, decide_true, decide_false, Bool.not_true, Bool.false_eq_true, if_false, if_true, Option.bind_some]
  exact Ok.ret Z
 have hpr := QoD hT.v (by omega)
 simp only [h4, h5, decide_false, Bool.not_true, Bool.false_eq_true, if_false, Option.bind_some]
 rw [Qop _ (by omega)]
 simp only [Option.bind_some]
 obtain ⟨own, hown, hO⟩ := QnK t
 rw [hown]
 simp only [Option.bind_some]
 have hidl : (idL t.Vars.length).length = t.Vars.length := Qjz _
 have hperm : (idL t.Vars.length).Perm (idL t.Vars.length) := List.Perm.refl _
 have hall : Qmc t (idL t.Vars.length) := fun w hw => QgY.2 (by omega)
 obtain ⟨r1, hr1, hc1⟩ := QkS ht (p := idL t.Vars.length) (by omega)
 rcases hc1 with ⟨d0, x0, rfl, hd0⟩ | ⟨_, hbad⟩
 rotate_left
 ·exact absurd ⟨fun w hw => QgY.1 hw, QoZ _⟩ hbad
 obtain ⟨a1, x1, F1, hb1, hA1⟩ := Qh5 ht hpr hT.c (order := idL t.Vars.length) (by omega) 4096 (.inl (by omega)) hperm
 have hw : IntKind.i64.wrap (1 + IntKind.i64.wrap (most.tmod 30)) = 1 + most % 30 := by
  have e : most.tmod 30 = most % 30 := Int.tmod_eq_emod_of_nonneg (by omega)
  rw [e, QD (n := most % 30) (by omega) (by omega), QD (by omega) (by omega)]
 obtain ⟨a2, x2, F2, hb2, hA2⟩ := Qh5 ht hpr hT.c (order := idL t.Vars.length) (by omega) (1 + most % 30) (.inr (by omega)) hperm
 obtain ⟨r3, hr3, hc3⟩ := QkS ht (p := p) (by omega)
 obtain ⟨k, hk, hsp⟩ := Qh6 ht
 have hv1 : ∀ n ∈ t.Vars, 1 ≤ n := fun n hn => (ht.g.v n hn).1
 have hlen := QbV (vars := t.Vars) fun x hx => by have := ht.g.v x hx; omega
 have hkl := hsp.len
 have hex1 : a1.exact = true := hA1.f (by omega)
 have hsz : (a2.distance.length : Int) ≤ 1 + most % 30 := by
  rw [hA2.size]
  have := hA2.m
  omega
 simp only [hr1, hb1, hw, hb2, hr3, Option.bind_some, QI, QgH, Option.isNone_none, Option.isSome_none, must, if_true, QlN, QpK, hex1, hsz, decide_true, Bool.or_self, Bool.or_false, Bool.false_eq_true, if_false]
 have hround : ∀ i, i < k.length → ∃ s d v1 v2 v3, k[i]? = some d ∧ (QN t.Vars)[i]? = some s ∧ StateOK t.Vars s ∧ QR d0 s = some v1 ∧ Qk a1 s = some v2 ∧ Qk a2 s = some v3 ∧ v1 = d ∧ v2 ≤ d ∧ v3 ≤ d ∧ (own = true → v2 = d) ∧ (own = true → a2.exact = true → v3 = d) ∧ k[(rk t.Vars s).toNat]? = some d := by
  intro i hi
  obtain ⟨s, hs⟩ := Qt (xs := QN t.Vars) (i := i) (by omega)
  have hso := QaW.1 (List.mem_of_getElem? hs)
  have hrk := Qnd hv1 hs
  have hrn : (rk t.Vars s).toNat = i := by omega
  obtain ⟨v1, d, e1, _, e2, e3, e4⟩ := hd0.val ht hsp hso
  obtain ⟨v2, d', f1, f2, f3, f4⟩ := hA1.le ht hsp hso
  obtain ⟨v3, d'', g1, g2, g3, g4⟩ := hA2.le ht hsp hso
  rw [e2] at f2 g2
  cases f2; cases g2
  exact ⟨s, d, v1, v2, v3, by rw [← hrn]; exact e2, hs, hso, e1, f1, g1, e4 hall, f3, g3, fun h => f4 (hO h) hperm hex1, fun h h' => g4 (hO h) hperm h', e2⟩
 rcases hc3 with ⟨d3, x3, rfl, hd3⟩ | ⟨⟨e3, rfl⟩, _⟩
 all_goals
  simp only [QgH, Option.isNone_none, Option.isSome_some, must, if_true, Option.bind_some, hk]
  refine Ok.ctl (fun _ _ => True) (fun _ => False) trivial ?_ (fun _ h => h.elim) (fun _ _ => Ok.ret Z)
  intro i _ hi _
  obtain ⟨s, d, v1, v2, v3, h1, h2, hso, h3, h4, h5, rfl, h7, h8, h9, h10, h11⟩ := hround i hi
  rw [Qgh ht.g.v ht.g.nv (by omega)]
  have n2 : ¬ v1 < v2 := by omega
  have n3 : ¬ v1 < v3 := by omega
  simp only [Qo, h1, h2, h3, h4, h5, n2, n3, Option.bind_some, decide_true, decide_false, Bool.not_true, Bool.false_eq_true, if_false]
 ·obtain ⟨v4, d4, q1, _, q2, q3, _⟩ := hd3.val ht hsp hso
  rw [h11] at q2
  cases q2
  have n4 : ¬ v1 < v4 := by omega
  cases own with
  | false =>
   simp only [Bool.false_eq_true, if_false, if_true, q1, n4, decide_false, Option.bind_some]
   exact Ok.ret trivial
  | true =>
   have e2 := h9 rfl
   subst e2
   cases hx : a2.exact with
   | false =>
    simp only [decide_true, Bool.not_true, Bool.false_eq_true, if_false, if_true, q1, n4, decide_false, Option.bind_some]
    exact Ok.ret trivial
   | true =>
    have e3 := h10 rfl hx
    subst e3
    simp only [decide_true, Bool.not_true, Bool.false_eq_true, if_false, if_true, q1, n4, decide_false, Option.bind_some]
    exact Ok.ret trivial
 ·cases own with
  | false =>
   simp only [Bool.false_eq_true, if_false, if_true, Option.bind_some]
   exact Ok.ret trivial
  | true =>
   have e2 := h9 rfl
   subst e2
   cases hx : a2.exact with
   | false =>
    simp only [decide_true, Bool.not_true, Bool.false_eq_true, if_false, if_true, Option.bind_some]
    exact Ok.ret trivial
   | true =>
    have e3 := h10 rfl hx
    subst e3
    simp only [decide_true, Bool.not_true, Bool.false_eq_true, if_false, if_true, Option.bind_some]
    exact Ok.ret trivial
end Go.Pw
