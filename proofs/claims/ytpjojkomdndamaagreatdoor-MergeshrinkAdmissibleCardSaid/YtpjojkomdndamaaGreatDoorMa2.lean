/- -/
import Derived.Test.YtpjojkomdndamaaGreatDoorL27
import Derived.Test.YtpjojkomdndamaaGreatDoorMa1
import Derived.Test.YtpjojkomdndamaaGreatDoorMaSo
set_option maxRecDepth 100000
set_option maxHeartbeats 4000000
set_option linter.unusedVariables false
namespace Go.Pw
open Go.Proofs
theorem N32 : (Tryz.f32.name == "runtime.NumGoroutine") = false := by kernel_rfl
theorem QbN {w0 w : World} {s : PHeap} {H : List Res} {f : (List Int)} {b c : Nat} {r : (List Int)} (hm : JT f = some r) (hS : St w0 s (H) w) (h : At s b c (QE (Qa .i64)) f) :
  Calls Tryz.prog 32 #[Value.func (.func 54) #[] #[Value.pointer (some ⟨b, c, none⟩)]] w fun e w' => ∃ v, e = .returned v ∧ ((fun (u : (List Int)) => ∃ (d : PHeap) (g : Value), PHeap.le s d ∧ St w0 d (H) w' ∧ v = g ∧ SliceRep (Qa .i64) d g u) r) := by
 unfold JT at hm
 refine Qy Tryz.func32 Z Z (Zc (Zd (O Z Z (Zo (v := Vs none 0 0) Z Z (Zb (V (Zc (Zd (O Z Z (Zm (v := Value.func (.func 54) #[] #[Vp (some ⟨b, c, none⟩)]) Z Z ?_))))))))))
 obtain ⟨y, o, hm⟩ := Zg hm
 refine O Z Z (Exec.call Z Z Tryz.func52 Z N52 (Zi Z Qk) ((QiL o hS h).mono ?_))
 rintro _ ac ⟨a, rfl, aa, _, l, i, rfl⟩
 refine ⟨_, Z, ?_⟩
 refine O Z Z (Zo (v := a) Z Z (Zb (V (Zc (Zd (O Z Z (Zm (v := a) Z Z ?_)))))))
 obtain ⟨z, p, hm⟩ := Zg hm
 refine O Z Z (Exec.call Z Z Tryz.func53 Z N53 (Zi Z Qk) ((QcC p i).mono ?_))
 rintro _ ad ⟨_, rfl, ⟨ab, m, j, rfl⟩⟩
 refine ⟨_, Z, ?_⟩
 refine Zb (V (Zc (Zd (O Z Z (Zm (v := a) Z Z (O Z Z (Zo (v := a) Z Z (Zb (V (Q1 ?_))))))))))
 have x := Zu hm
 subst r
 refine ⟨_, QX Z, ?_⟩
 obtain ⟨t, n, k, q⟩ := j.freezeArr
 exact ⟨t, a, (Zt (Zt l m) n), k, Z, q⟩
theorem Z3 : JA Tryz.prog 3 = some (U 0) := by kernel_rfl
theorem N35 : (Tryz.f35.name == "runtime.NumGoroutine") = false := by kernel_rfl
theorem Qbb {w0 w : World} {s : PHeap} {H : List Res} {h : Int} {r : (List Int)} (hm : Ko h = some r) (hS : St w0 s (H) w) :
  Calls Tryz.prog 35 #[U h] w fun e w' => ∃ v, e = .returned v ∧ ((fun (aq : (List Int)) => ∃ (j : PHeap) (t : Value), PHeap.le s j ∧ St w0 j (H) w' ∧ v = t ∧ SliceRep (Qa .i64) j t aq) r) := by
 unfold Ko at hm
 refine Qy Tryz.func35 Z Z (Zc (Zd (O Z Z (Zo (v := Vs none 0 0) Z Z (Zb (V (Zc (Zd (O Z Z (Zm (v := U h) Z Z ?_))))))))))
 obtain ⟨ad, aj, hm⟩ := Zg hm
 refine O Z Z (JX (E := (Qa .i64)) hS Jt Z3 Z Z Z Z aj ?_)
 intro a a1 d
 refine O Z Z (Zo (v := a) Z Z (Zb (V (Zc (Zc (Zd (O Z Z (Zm (v := a) Z Z (O Z Z (QQ (d) Jt Z Z (O Z Z (Zm (v := U 0) Z Z (Zb (V ?_))))))))))))))
 obtain ⟨g, u, hm⟩ := Zg hm
 refine Qm (J3 (fun k' s' f' w' => (fun (g : (List Int)) => ∃ (q : PHeap) , PHeap.le s q ∧ St w0 q (Res.arr (Qa .i64) 3 a g :: H) w' ∧ f' 3 = a ∧ f' 8 = U ((ad.length : Int)) ∧ f' 9 = U (k' : Int)) s') u ?_ ?_ ?_)
 ·exact ⟨s, (Zv _), d, Z, Z, Z⟩
 ·intro c g am aw a2 ac x b
  obtain ⟨an, ae, n, o, p, l⟩ := x
  refine Zc (Zd (O Z Z (Zq Z l p (Zb (V (Zc (QK (Zx (decide_eq_true (by omega))) (Qp (V (Zc (Qm (Zc (Zd (O Z Z (Zm (v := U ((c : Int))) Z l (O Z Z (Zo (v := U ((c : Int))) Z Z (Zb (V (Zd (O Z Z (Zm (v := a) Z o (O Z Z (Zm (v := U ((c : Int))) Z Z (O Z Z (Zm (v := U ((c : Int))) Z Z ?_))))))))))))))))))))))))))
  obtain ⟨a5, i, b⟩ := Zg b
  obtain ⟨ay, ar, m⟩ := n.arr_at i
  refine O Z Z (Qc Jt Z m Z (Qe i).1 (Qe i).2.1 ?_)
  obtain ⟨az, ak, b⟩ := Zg b
  refine O Z Z (QN n m A3 Z Z Z Z (Qs.2 Z) ak ?_)
  intro a3 z
  refine Zb (Qz (V (Zd (O Z Z (Exec.add Z l Z (O Z Z (Zm (v := U (IntKind.i64.wrap ((c : Int) + 1))) Z Z (Zb (V ?_)))))))))
  have au := Zu b
  subst am
  exact ⟨an, ae, z, o, p, (Eq.trans Z (QB ac d.arr_le))⟩
 intro ax a4 y
 obtain ⟨a0, af, aa, ah, ai, ap⟩ := y
 refine Zc (Zd (O Z Z (Zq Z ap ai (Zb (V (Zc (QA (Zx (decide_eq_false (by omega))) (QF (Ql (Ql (Q7 (V (Zc (Zd (O Z Z (Zm (v := a) Z ah (O Z Z (Zo (v := a) Z Z (Zb (V (Q1 ?_)))))))))))))))))))))
 have av := Zu hm
 subst r
 refine ⟨_, QX Z, ?_⟩
 obtain ⟨ao, ag, ab, al⟩ := aa.freezeArr
 exact ⟨ao, a, (Zt af ag), ab, Z, al⟩
theorem N34 : (Tryz.f34.name == "runtime.NumGoroutine") = false := by kernel_rfl
theorem Y1 {w0 w : World} {s : PHeap} {H : List Res} {n : (List Int)} {ac : (List Int)} {b : Value} {c : Value} {r : Bool} (hm : Jp n ac = some r) (hS : St w0 s (H) w) (j : SliceRep (Qa .i64) s b n) (p : SliceRep (Qa .i64) s c ac) :
  Calls Tryz.prog 34 #[b, c] w fun e w' => ∃ v, e = .returned v ∧ ((fun (aA : Bool) => ∃ (ad : PHeap) , PHeap.le s ad ∧ St w0 ad (H) w' ∧ v = Value.bool (aA)) r) := by
 unfold Jp at hm
 refine Qy Tryz.func34 Z Z (Zc (Zd (O Z Z (Zo (v := Vb false) Z Z (Zb (V (Zc (Zc (Zd (O Z Z (Zm (v := b) Z Z (O Z Z (Zr Jt Z Z j (O Z Z (Zm (v := c) Z Z (O Z Z (Zr Jt Z Z p (O Z Z (Exec.neq Z Z Z (Zb (V ?_)))))))))))))))))))))
 rcases Qg hm with ⟨d, hm⟩ | ⟨d, hm⟩
 ·refine Qv Z d (Zc (Zd (O Z Z (Zo (v := Vb false) Z Z (Zb (V (Q1 (Qj ?_))))))))
  have aD := Zu hm
  subst r
  refine ⟨_, QX Z, ?_⟩
  exact ⟨s, (Zv _), hS, Z⟩
 refine Qw Z d ?_
 replace d := Zk d
 refine Qp (V (Zc (Zc (Zd (O Z Z (Zm (v := b) Z Z (O Z Z (Zr Jt Z Z j (O Z Z (Zm (v := U 0) Z Z (Zb (V ?_))))))))))))
 obtain ⟨t, aj, aw, au, aq⟩ := QO hm
 refine QJ (M := fun f' w' => ∃ s', (t = .next s' ∨ t = .brk s') ∧ (fun (_ : Unit) => ∃ (ae : PHeap) , PHeap.le s ae ∧ St w0 ae (H) w' ∧ f' 0 = b ∧ f' 1 = c ∧ f' 12 = U ((n.length : Int))) s') ?_ ?_
 ·refine Qm (J4 (fun k' s' f' w' => (fun (_ : Unit) => ∃ (af : PHeap) , PHeap.le s af ∧ St w0 af (H) w' ∧ f' 0 = b ∧ f' 1 = c ∧ f' 12 = U ((n.length : Int)) ∧ f' 13 = U (k' : Int)) s') aj ?_ ?_ ?_)
  ·exact ⟨s, (Zv _), hS, Z, Z, Z, Z⟩
  ·intro i aS u aK aX ar ak a ax
   obtain ⟨ag, m, an, y, z, aa, o⟩ := ak
   refine Zc (Zd (O Z Z (Zq Z o aa (Zb (V (Zc (QK (Zx (decide_eq_true (by omega))) (Qp (V (Zc (Qm (Zc (Zd (O Z Z (Zm (v := U ((i : Int))) Z o (O Z Z (Zo (v := U ((i : Int))) Z Z (Zb (V (Zc (K3 (n0 := 9) (.q 0 (.q 1 (.q 2 (.q 3 (.q 4 (.q 5 (.q 6 (.q 7 (.q 8 .done))))))))) K8 (by kernel_rfl) (by kernel_rfl) ?_)))))))))))))))))))))
   have l := an.drew
   refine Qh Z Z (Zm (v := b) Z y ⟨Z, ?_⟩)
   refine Qh Z Z (Zm (v := U ((i : Int))) Z Z ⟨Z, ?_⟩)
   obtain ⟨ba, a3, a⟩ := Zg a
   refine Qh Z Z (QP Jt Z Z Z (j.mono m) a3 ?_)
   intro aB aN ah aE
   refine ⟨Z, ?_⟩
   refine Qh Z Z (Zw (E := (Qa .i64)) l A3 Z Z Z ah ?_)
   intro aV a4
   obtain rfl := Qs.1 a4
   refine ⟨Z, ?_⟩
   refine Qh Z Z (Zm (v := c) Z z ⟨Z, ?_⟩)
   refine Qh Z Z (Zm (v := U ((i : Int))) Z Z ⟨Z, ?_⟩)
   obtain ⟨bb, a5, a⟩ := Zg a
   refine Qh Z Z (QP Jt Z Z Z (p.mono m) a5 ?_)
   intro aC aO ai aF
   refine ⟨Z, ?_⟩
   refine Qh Z Z (Zw (E := (Qa .i64)) l A3 Z Z Z ai ?_)
   intro aW a6
   obtain rfl := Qs.1 a6
   refine ⟨Z, ?_⟩
   refine Qh Z Z (Exec.neq Z Z Z ⟨Z, ?_⟩)
   refine QC (Zb (V ?_))
   rcases Qg a with ⟨g, a⟩ | ⟨g, a⟩
   ·refine Qv Z g (Zc (Zd (O Z Z (Zo (v := Vb false) Z Z (Zb (V (Q1 (QD (Qj (Qj (QD (Qj (Qj ?_)))))))))))))
    have aG := Zu a
    subst u
    have av := aw _ (ax (by intro _ h; cases h))
    have aH := Zu av
    subst r
    refine ⟨_, QX Z, ?_⟩
    exact ⟨ag, m, l, Z⟩
   refine Qw Z g ?_
   replace g := Zk g
   refine Qp (Qz (V (Zd (O Z Z (Exec.add Z o Z (O Z Z (Zm (v := U (IntKind.i64.wrap ((i : Int) + 1))) Z Z (Zb (V ?_)))))))))
   have aI := Zu a
   subst u
   refine ⟨_, Z, ?_⟩; exact ⟨ag, m, l, y, z, aa, (Eq.trans Z (QB ar (SliceRep.le j)))⟩
  intro aT aL aY al ay
  obtain ⟨a7, az, ao, a1, a2, ab, a9⟩ := al
  refine Zc (Zd (O Z Z (Zq Z a9 ab (Zb (V (Zc (QA (Zx (decide_eq_false (by omega))) (QF (Ql (Ql (Q7 (V ?_))))))))))))
  refine ⟨_, .inl ay, ?_⟩; exact ⟨a7, az, ao, a1, a2, ab⟩
 rintro aM aZ ⟨aU, x, am⟩
 have hm := x.elim (au _) (aq _)
 clear x
 obtain ⟨a8, a0, ap, aP, aQ, aR⟩ := am
 refine (V (Zc (Zd (O Z Z (Zo (v := Vb true) Z Z (Zb (V (Q1 ?_))))))))
 have aJ := Zu hm
 subst r
 refine ⟨_, QX Z, ?_⟩
 exact ⟨a8, a0, ap, Z⟩
theorem N36 : (Tryz.f36.name == "runtime.NumGoroutine") = false := by kernel_rfl
theorem Jc {w0 w : World} {s : PHeap} {H : List Res} {b : (List Int)} {c : Value} {r : (List Int)} (hm : QM b = some r) (hS : St w0 s (H) w) (d : SliceRep (Qa .i64) s c b) :
  Calls Tryz.prog 36 #[c] w fun e w' => ∃ v, e = .returned v ∧ ((fun (u : (List Int)) => ∃ (g : PHeap) (h : Value), PHeap.le s g ∧ St w0 g (Res.arr (Qa .i64) 3 h u :: H) w' ∧ v = h) r) := by
 unfold QM at hm
 refine Qy Tryz.func36 Z Z (Zc (Zd (O Z Z (Zo (v := Vs none 0 0) Z Z (Zb (V (Zc (Zc (Zd (O Z Z (Zm (v := c) Z Z ?_)))))))))))
 obtain ⟨j, ab, y, k, p⟩ := d.nilShape
 refine O Z Z (QbL Tryz.underlying22 Z k Z (Zb (V ?_)))
 by_cases a : j.isNone = true
 ·have q := p a
  replace hm := (show (some []) = ((app 8 [] b).bind fun f => some f) from by simp [q, app]).trans hm
  refine QK ((Zx a)) (Zc (Zd (O Z Z (Zo (v := Vs none 0 0) Z Z (Zb (V (Q1 (Qj ?_))))))))
  have z := Zu hm
  subst r
  refine ⟨_, QX Z, ?_⟩
  have l := hS.nilArr (Qa .i64) 3
  exact ⟨s, (Vs none 0 0), (Zv _), l, Z⟩
 replace a := Zk a
 refine QA ((Zx a)) (Qp (V (Zc (Zd (O Z Z (Exec.buildSlice (Te := 3) (cs := []) hS Z Qx (fun _ => by kernel_rfl) ?_))))))
 intro x ac m
 refine O Z Z (Zm (v := c) Z Z ?_)
 have n := St.boxArr (E := (Qa .i64)) (xs := []) m rfl (by simp [maxLen])
 obtain ⟨f, t, hm⟩ := Zg hm
 refine O Z Z (Qbm (E := (Qa .i64)) (ys := b) n Jt Z3 Z (by decide) Z Z Z d t ?_)
 intro i ad o
 refine O Z Z (Zo (v := i) Z Z (Zb (V (Q1 ?_))))
 have aa := Zu hm
 subst r
 refine ⟨_, QX Z, ?_⟩
 exact ⟨s, i, (Zv _), o, Z⟩
theorem Z38 : JA Tryz.prog 38 = some (Value.agg #[U 0, U 0, Value.slice none 0 0, Value.slice none 0 0, Value.slice none 0 0]) := by kernel_rfl
theorem N75 : (Tryz.f75.name == "runtime.NumGoroutine") = false := by kernel_rfl
theorem Qe2 {w0 w : World} {s : PHeap} {H : List Res} {ai : Task} {ag : (List Int)} {n : Value} {o : Value} {p : Value} {q : Value} {g : Value} {r : (Option Int)} (hm : Yp ai ag = some r) (hS : St w0 s (H) w) (am : SliceRep (Qa .i64) s n ai.Vars) (a4 : SliceRep (Qa .i64) s o ai.Init) (a5 : SliceRep encFact s p ai.Goal) (a6 : SliceRep encOp s q ai.Ops) (aj : SliceRep (Qa .i64) s g ag) :
  Calls Tryz.prog 75 #[Value.agg #[n, o, p, q], g] w fun e w' => ∃ v, e = .returned v ∧ ((fun (bi : (Option Int)) => ∃ (ay : PHeap) , PHeap.le s ay ∧ St w0 ay (H) w' ∧ v = QG 50 (bi)) r) := by
 unfold Yp at hm
 refine Qy Tryz.func75 Z Z (Zc (Zd (O Z Z (Exec.box (cs := [n, o, p, q]) hS Z Z Z ?_))))
 intro y bA ap
 refine O Z Z (Zo (v := QG 50 (none)) Z Z (Zb (V (Zc (Zc (Zd (O Z Z (Qn (ds := [n, o, p, q]) (ap) A26 Z Z Z ?_))))))))
 obtain ⟨al, ba, hm⟩ := Zg hm
 refine O Z Z (Exec.call Z Z Tryz.func31 Z N31 (Zi Z Qk) ((Qda ba ap am a4 a5 a6).mono ?_))
 rintro _ bB ⟨_, rfl, ⟨ak, j, aq, rfl⟩⟩
 refine ⟨_, Z, ?_⟩
 refine O Z Z (Zo (v := QG 50 (al)) Z Z (Zb (V (Zc (Zd (O Z Z (Zm (v := QG 50 (al)) Z Z (O Z Z (Je (T := 50) Tryz.underlying32 Z Z Z (Zb (V ?_)))))))))))
 rcases Qg hm with ⟨z, hm⟩ | ⟨z, hm⟩
 ·refine Qv Z z (Zc (Zd (O Z Z (Zm (v := QG 50 (al)) Z Z (O Z Z (Zo (v := QG 50 (al)) Z Z (Zb (V (Q1 (Qj ?_))))))))))
  have bl := Zu hm
  subst r
  refine ⟨_, QX Z, ?_⟩
  have aE := aq.drop
  exact ⟨ak, j, aE, Z⟩
 refine Qw Z z ?_
 replace z := Zk z
 refine Qp (V (Zc (Zc (Zd (O Z Z (Zm (v := g) Z Z (O Z Z (Zr Jt Z Z (aj.mono j) (O Z Z (Zm (v := U 0) Z Z (Zb (V ?_))))))))))))
 obtain ⟨an, a9, aN, aL, aJ⟩ := QO hm
 refine QJ (M := fun f' w' => ∃ s', (an = .next s' ∨ an = .brk s') ∧ (fun (_ : Unit) => ∃ (az : PHeap) , PHeap.le ak az ∧ St w0 az (Res.box y 26 [n, o, p, q] :: H) w' ∧ f' 1 = g ∧ f' 2 = Vp (some ⟨y, 0, none⟩) ∧ f' 13 = g ∧ f' 14 = U ((ag.length : Int))) s') ?_ ?_
 ·refine Qm (J4 (fun k' s' f' w' => (fun (_ : Unit) => ∃ (a0 : PHeap) , PHeap.le ak a0 ∧ St w0 a0 (Res.box y 26 [n, o, p, q] :: H) w' ∧ f' 1 = g ∧ f' 2 = Vp (some ⟨y, 0, none⟩) ∧ f' 13 = g ∧ f' 14 = U ((ag.length : Int)) ∧ f' 15 = U (k' : Int)) s') a9 ?_ ?_ ?_)
  ·exact ⟨ak, (Zv _), aq, Z, Z, Z, Z, Z⟩
  ·intro m b5 ao bu bC aK aA i aO
   obtain ⟨ah, ab, l, ac, ad, ae, af, t⟩ := aA
   refine Zc (Zd (O Z Z (Zq Z t af (Zb (V (Zc (QK (Zx (decide_eq_true (by omega))) (Qp (V (Zc (Qm (Zc (Zd (O Z Z (Zm (v := U ((m : Int))) Z t ?_)))))))))))))))
   obtain ⟨u, bb, i⟩ := Zg i
   refine O Z Z (Qu Jt Z ae t (aj.mono (Zt j ab)) bb ?_)
   intro bj bz a7
   refine O Z Z (Zw (E := (Qa .i64)) l A3 Z Z Z a7 ?_)
   intro b8 bc
   obtain rfl := Qs.1 bc
   refine O Z Z (Zo (v := U ((m : Int))) Z Z (O Z Z (Zo (v := U u) Z Z (Zb (V (Zc ?_))))))
   obtain ⟨x, a, i⟩ := Zg i
   refine QJ (M := fun f' w' => (fun (x : Bool) => ∃ (a1 : PHeap) , PHeap.le ah a1 ∧ St w0 a1 (Res.box y 26 [n, o, p, q] :: H) w' ∧ f' 1 = g ∧ f' 2 = Vp (some ⟨y, 0, none⟩) ∧ f' 13 = g ∧ f' 14 = U ((ag.length : Int)) ∧ f' 15 = U ((m : Int)) ∧ f' 41 = Vb x) x) ?_ ?_
   ·refine Zd (O Z Z (Zm (v := U u) Z Z (O Z Z (Zq Z Z Z (O Z Z (Zm (v := Vb (decide (u < 0))) Z Z ?_))))))
    rcases Qg a with ⟨d, a⟩ | ⟨d, a⟩
    ·refine Q0 19 (by rw [d]; rfl) ?_
     refine Zb (V ?_)
     have bm := Zu a
     subst x
     exact ⟨ah, (Zv _), l, ac, ad, ae, af, t, Z⟩
    replace d := Zk d
    refine Qo Z (Zf Z (Zx d)) Z (Zm (v := U u) Z Z (Qo Z (Zf Z (Zx d)) Z (Zp Yk Z ad Z (Qo Z (Zf Z (Zx d)) Z (Zn (l) A22 Z Z Z (Qo Z (Zf Z (Zx d)) Z (Zr Jt Z Z (am.mono (Zt j ab)) (Qo Z (Zf Z (Zx d)) Z (Exec.geq Z Z Z ?_)))))))))
    refine Q0 2 (by rw [d]; rfl) ?_
    rcases Qg a with ⟨c, a⟩ | ⟨c, a⟩
    ·refine Q0 12 (by rw [c]; rfl) ?_
     refine Zb (V ?_)
     have bn := Zu a
     subst x
     exact ⟨ah, (Zv _), l, ac, ad, ae, af, t, Z⟩
    replace c := Zk c
    refine Qo Z (Zf Z (Zx c)) Z (Zm (v := U ((m : Int))) Z Z (Qo Z (Zf Z (Zx c)) Z (Exec.gtr Z Z Z (Qo Z (Zf Z (Zx c)) Z (Zm (v := Vb (decide (0 < (m : Int)))) Z Z ?_)))))
    rcases Qg a with ⟨b, a⟩ | ⟨b, a⟩
    ·refine Qo Z (Zf Z (Zx b)) Z (Zm (v := g) Z ac (Qo Z (Zf Z (Zx b)) Z (Zm (v := U ((m : Int))) Z Z (Qo Z (Zf Z (Zx b)) Z (Exec.sub Z Z Z ?_)))))
     obtain ⟨a3, bd, a⟩ := Zg a
     refine Qo Z (Zf Z (Zx b)) Z (Qu Jt Z Z Z (aj.mono (Zt j ab)) bd ?_)
     intro bk b0 a8
     refine Qo Z (Zf Z (Zx b)) Z (Zw (E := (Qa .i64)) l A3 Z Z Z a8 ?_)
     intro b9 be
     obtain rfl := Qs.1 be
     refine Qo Z (Zf Z (Zx b)) Z (Zm (v := U u) Z Z (Qo Z (Zf Z (Zx b)) Z (Exec.geq Z Z Z (Qo Z (Zf Z (Zx c)) Z (Zs (v := Vb (decide (u ≤ a3))) Z (Zx b) Z (O Z Z (Q5 (v := Vb (decide (u ≤ a3))) Z (Zx c) Z (Zb (V ?_)))))))))
     have bo := Zu a
     subst x
     exact ⟨ah, (Zv _), l, ac, ad, ae, af, t, Z⟩
    replace b := Zk b
    refine Q0 7 (by rw [b]; rfl) ?_
    refine Qo Z (Zf Z (Zx c)) Z (Q5 (v := Vb false) Z Z Z (O Z Z (Q5 (v := Vb false) Z (Zx c) Z (Zb (V ?_)))))
    have bp := Zu a
    subst x
    exact ⟨ah, (Zv _), l, ac, ad, ae, af, t, Z⟩
   intro bv bD aC
   obtain ⟨a2, av, ar, aS, aT, aU, aV, aW, aw⟩ := aC
   refine (V ?_)
   rcases Qg i with ⟨aa, i⟩ | ⟨aa, i⟩
   ·refine Qv aw aa (Zc (Zd (O Z Z (Exec.makeInterface C50 Z Z (O Z Z (Zo (v := QG 50 (some 2)) Z Z (Zb (V (Q1 (QD (Qj (Qj (QD (Qj (Qj ?_)))))))))))))))
    have bq := Zu i
    subst ao
    have aM := aN _ (aO (by intro _ h; cases h))
    have br := Zu aM
    subst r
    refine ⟨_, QX Z, ?_⟩
    have aF := ar.drop
    exact ⟨a2, (Zt (Zt j ab) av), aF, Z⟩
   refine Qw aw aa ?_
   replace aa := Zk aa
   refine Qp (Qz (V (Zd (O Z Z (Exec.add Z aW Z (O Z Z (Zm (v := U (IntKind.i64.wrap ((m : Int) + 1))) Z Z (Zb (V ?_)))))))))
   have bs := Zu i
   subst ao
   refine ⟨_, Z, ?_⟩; exact ⟨a2, (Zt ab av), ar, aS, aT, aU, aV, (Eq.trans Z (QB aK (SliceRep.le (aj.mono j))))⟩
  intro b6 bw bE aB aP
  obtain ⟨bf, aQ, aG, aX, aY, aZ, ax, bh⟩ := aB
  refine Zc (Zd (O Z Z (Zq Z bh ax (Zb (V (Zc (QA (Zx (decide_eq_false (by omega))) (QF (Ql (Ql (Q7 (V ?_))))))))))))
  refine ⟨_, .inl aP, ?_⟩; exact ⟨bf, aQ, aG, aX, aY, aZ, ax⟩
 rintro bx bF ⟨b7, au, aD⟩
 have hm := au.elim (aL _) (aJ _)
 clear au
 obtain ⟨bg, aR, aH, b1, b2, b3, b4⟩ := aD
 refine (V (Zc (Zd (O Z Z (Zo (v := QG 50 (none)) Z Z (Zb (V (Q1 ?_))))))))
 have bt := Zu hm
 subst r
 refine ⟨_, QX Z, ?_⟩
 have aI := aH.drop
 exact ⟨bg, (Zt j aR), aI, Z⟩
theorem KH : JI Tryz.prog 38 = some (true, 5) := by kernel_rfl
theorem N76 : (Tryz.f76.name == "runtime.NumGoroutine") = false := by kernel_rfl
theorem Qa4 {w0 w : World} {s : PHeap} {H : List Res} {g : Task} {t : (List Int)} {i : Value} {j : Value} {l : Value} {m : Value} {n : Value} {r : Int × Bool} (hm : Kx g t = some r) (hS : St w0 s (H) w) (al : SliceRep (Qa .i64) s i g.Vars) (aN : SliceRep (Qa .i64) s j g.Init) (aO : SliceRep encFact s l g.Goal) (aP : SliceRep encOp s m g.Ops) (u : SliceRep (Qa .i64) s n t) :
  Calls Tryz.prog 76 #[Value.agg #[i, j, l, m], n] w fun e w' => ∃ v, e = .returned v ∧ ((J2 fun (aL : Int) (aM : Bool) => ∃ (af : PHeap) , PHeap.le s af ∧ St w0 af (H) w' ∧ v = Value.tuple #[U aL, Value.bool (aM)]) r) := by
 unfold Kx at hm
 refine Qy Tryz.func76 Z Z (Zc (Zd (O Z Z (Exec.box (cs := [i, j, l, m]) hS Z Z Z ?_))))
 intro o bg au
 refine O Z Z (Zo (v := U 0) Z Z (O Z Z (Zo (v := Vb false) Z Z (Zb (V (Zc (Zd (O Z Z (Zo (v := U 1) Z Z (Zb (V (Zc (Zc (Zd (O Z Z (Zm (v := n) Z Z (O Z Z (Zr Jt Z Z u (O Z Z (Zm (v := U 0) Z Z (Zb (V ?_))))))))))))))))))))))
 obtain ⟨y, ao, a3, a1, az⟩ := QO hm
 refine QJ (M := fun f' w' => ∃ s', (y = .next s' ∨ y = .brk s') ∧ (fun (q : Int) => ∃ (ag : PHeap) , PHeap.le s ag ∧ St w0 ag (Res.box o 26 [i, j, l, m] :: H) w' ∧ f' 2 = Vp (some ⟨o, 0, none⟩) ∧ f' 6 = U q ∧ f' 9 = n ∧ f' 10 = U ((t.length : Int))) s') ?_ ?_
 ·refine Qm (J4 (fun k' s' f' w' => (fun (b : Int) => ∃ (ah : PHeap) , PHeap.le s ah ∧ St w0 ah (Res.box o 26 [i, j, l, m] :: H) w' ∧ f' 2 = Vp (some ⟨o, 0, none⟩) ∧ f' 6 = U b ∧ f' 9 = n ∧ f' 10 = U ((t.length : Int)) ∧ f' 11 = U (k' : Int)) s') ao ?_ ?_ ?_)
  ·exact ⟨s, (Zv _), au, Z, Z, Z, Z, Z⟩
  ·intro a6 b z aW bh a0 ap a a4
   obtain ⟨ai, p, c, ab, a9, ac, ad, x⟩ := ap
   refine Zc (Zd (O Z Z (Zq Z x ad (Zb (V (Zc (QK (Zx (decide_eq_true (by omega))) (Qp (V (Zc (Qm (Zc (Zd ?_)))))))))))))
   obtain ⟨aj, aE, a⟩ := Zg a
   refine O Z Z (Qu Jt Z ac x (u.mono p) aE ?_)
   intro aQ aZ am
   refine O Z Z (Zw (E := (Qa .i64)) c A3 Z Z Z am ?_)
   intro be aF
   obtain rfl := Qs.1 aF
   refine O Z Z (Zo (v := U aj) Z Z (Zb (V (Zc (Zd (O Z Z (Zm (v := U b) Z a9 (O Z Z (Zp Yk Z ab Z (O Z Z (Zn (c) A22 Z Z Z (O Z Z (Zm (v := U aj) Z Z ?_)))))))))))))
   obtain ⟨ak, aG, a⟩ := Zg a
   refine O Z Z (Qu Jt Z Z Z (al.mono p) aG ?_)
   intro aR ba an
   refine O Z Z (Zw (E := (Qa .i64)) c A3 Z Z Z an ?_)
   intro bf aH
   obtain rfl := Qs.1 aH
   refine O Z Z (Exec.mul Z Z Z (O Z Z (Zo (v := U (IntKind.i64.wrap (b * ak))) Z Z (Zb (V (Zc (Zd (O Z Z (Zm (v := U (IntKind.i64.wrap (b * ak))) Z Z (O Z Z (Exec.gtr Z Z Z (Zb (V ?_)))))))))))))
   rcases Qg a with ⟨d, a⟩ | ⟨d, a⟩
   ·refine Qv Z d (Zc (Zd (O Z Z (Zo (v := U 0) Z Z (O Z Z (Zo (v := Vb false) Z Z (Zb (V (Q1 (QD (Qj (Qj (QD (Qj (Qj ?_)))))))))))))))
    have aS := Zu a
    subst z
    have a2 := a3 _ (a4 (by intro _ h; cases h))
    have aT := Zu a2
    subst r
    refine ⟨_, Qbu Z, ?_⟩
    have av := c.drop
    exact ⟨ai, p, av, (KX Z Z)⟩
   refine Qw Z d ?_
   replace d := Zk d
   refine Qp (Qz (V (Zd (O Z Z (Exec.add Z x Z (O Z Z (Zm (v := U (IntKind.i64.wrap ((a6 : Int) + 1))) Z Z (Zb (V ?_)))))))))
   have aU := Zu a
   subst z
   refine ⟨_, Z, ?_⟩; exact ⟨ai, p, c, ab, Z, ac, ad, (Eq.trans Z (QB a0 (SliceRep.le u)))⟩
  intro b aX bi aq a5
  obtain ⟨aI, a7, aw, aA, aB, aC, ae, aK⟩ := aq
  refine Zc (Zd (O Z Z (Zq Z aK ae (Zb (V (Zc (QA (Zx (decide_eq_false (by omega))) (QF (Ql (Ql (Q7 (V ?_))))))))))))
  refine ⟨_, .inl a5, ?_⟩; exact ⟨aI, a7, aw, aA, aB, aC, ae⟩
 rintro aY bj ⟨q, aa, ar⟩
 have hm := aa.elim (a1 _) (az _)
 clear aa
 obtain ⟨aJ, a8, ax, bb, aD, bc, bd⟩ := ar
 refine (V (Zc (Zd (O Z Z (Zm (v := U q) Z aD (O Z Z (Zo (v := U q) Z Z (O Z Z (Zo (v := Vb true) Z Z (Zb (V (Q1 ?_))))))))))))
 have aV := Zu hm
 subst r
 refine ⟨_, Qbu Z, ?_⟩
 have ay := ax.drop
 exact ⟨aJ, a8, ay, (KX Z Z)⟩
theorem N77 : (Tryz.f77.name == "runtime.NumGoroutine") = false := by kernel_rfl
theorem QbH {w0 w : World} {s : PHeap} {H : List Res} {c : Task} {p : (List Int)} {af : (List Int)} {h : Value} {i : Value} {j : Value} {l : Value} {m : Value} {n : Value} {r : Int} (hm : Kk c p af = some r) (hS : St w0 s (H) w) (ag : SliceRep (Qa .i64) s h c.Vars) (aC : SliceRep (Qa .i64) s i c.Init) (aD : SliceRep encFact s j c.Goal) (aE : SliceRep encOp s l c.Ops) (o : SliceRep (Qa .i64) s m p) (ah : SliceRep (Qa .i64) s n af) :
  Calls Tryz.prog 77 #[Value.agg #[h, i, j, l], m, n] w fun e w' => ∃ v, e = .returned v ∧ ((fun (aB : Int) => ∃ (ad : PHeap) , PHeap.le s ad ∧ St w0 ad (H) w' ∧ v = U aB) r) := by
 unfold Kk at hm
 refine Qy Tryz.func77 Z Z (Zc (Zd (O Z Z (Exec.box (cs := [h, i, j, l]) hS Z Z Z ?_))))
 intro x aX ao
 refine O Z Z (Zo (v := U 0) Z Z (Zb (V (Zc (Zd (O Z Z (Zo (v := U 0) Z Z (Zb (V (Zc (Zc (Zd (O Z Z (Zm (v := m) Z Z (O Z Z (Zr Jt Z Z o (O Z Z (Zm (v := U 0) Z Z (Zb (V ?_))))))))))))))))))))
 obtain ⟨b, al, hm⟩ := Zg hm
 refine Qm (J3 (fun k' s' f' w' => (fun (b : Int) => ∃ (ae : PHeap) , PHeap.le s ae ∧ St w0 ae (Res.box x 26 [h, i, j, l] :: H) w' ∧ f' 2 = n ∧ f' 3 = Vp (some ⟨x, 0, none⟩) ∧ f' 7 = U b ∧ f' 10 = m ∧ f' 11 = U ((p.length : Int)) ∧ f' 12 = U (k' : Int)) s') al ?_ ?_ ?_)
 ·exact ⟨s, (Zv _), ao, Z, Z, Z, Z, Z, Z⟩
 ·intro au b a5 aM aY ar am a
  obtain ⟨a6, g, y, z, aa, aw, ab, ac, t⟩ := am
  refine Zc (Zd (O Z Z (Zq Z t ac (Zb (V (Zc (QK (Zx (decide_eq_true (by omega))) (Qp (V (Zc (Qm (Zc (Zd ?_)))))))))))))
  obtain ⟨u, az, a⟩ := Zg a
  refine O Z Z (Qu Jt Z ab t (o.mono g) az ?_)
  intro aF aO ai
  refine O Z Z (Zw (E := (Qa .i64)) y A3 Z Z Z ai ?_)
  intro aU a0
  obtain rfl := Qs.1 a0
  refine O Z Z (Zo (v := U u) Z Z (Zb (V (K3 (n0 := 12) (.q 0 (.q 1 (.q 2 (.q 3 (.q 4 (.q 5 (.q 6 (.q 7 (.q 8 (.q 9 (.q 10 (.q 11 .done)))))))))))) K8 (by kernel_rfl) (by kernel_rfl) ?_))))
  have d := y.drew
  refine Qh Z Z (Zm (v := U b) Z aw ⟨Z, ?_⟩)
  refine Qh Z Z (Zp Yk Z aa Z ⟨Z, ?_⟩)
  refine Qh Z Z (Zn (d) A22 Z Z Z ⟨Z, ?_⟩)
  refine Qh Z Z (Zm (v := U u) Z Z ⟨Z, ?_⟩)
  obtain ⟨a8, a1, a⟩ := Zg a
  refine Qh Z Z (QP Jt Z Z Z (ag.mono g) a1 ?_)
  intro aG aP aj aI
  refine ⟨Z, ?_⟩
  refine Qh Z Z (Zw (E := (Qa .i64)) d A3 Z Z Z aj ?_)
  intro aV a2
  obtain rfl := Qs.1 a2
  refine ⟨Z, ?_⟩
  refine Qh Z Z (Exec.mul Z Z Z ⟨Z, ?_⟩)
  refine Qh Z Z (Zm (v := n) Z z ⟨Z, ?_⟩)
  refine Qh Z Z (Zm (v := U u) Z Z ⟨Z, ?_⟩)
  obtain ⟨a9, a3, a⟩ := Zg a
  refine Qh Z Z (QP Jt Z Z Z (ah.mono g) a3 ?_)
  intro aH aQ ak aJ
  refine ⟨Z, ?_⟩
  refine Qh Z Z (Zw (E := (Qa .i64)) d A3 Z Z Z ak ?_)
  intro aW a4
  obtain rfl := Qs.1 a4
  refine ⟨Z, ?_⟩
  refine Qh Z Z (Exec.add Z Z Z ⟨Z, ?_⟩)
  refine QC (O Z Z (Zo (v := U (IntKind.i64.wrap ((IntKind.i64.wrap (b * a8)) + a9))) Z Z (Zb (Qz (V (Zd (O Z Z (Exec.add Z t Z (O Z Z (Zm (v := U (IntKind.i64.wrap ((au : Int) + 1))) Z Z (Zb (V ?_))))))))))))
  have aK := Zu a
  subst a5
  exact ⟨a6, g, d, z, aa, Z, ab, ac, (Eq.trans Z (QB ar (SliceRep.le o)))⟩
 intro aN aZ an
 obtain ⟨a7, av, ap, aR, aS, ax, aT, ay, aA⟩ := an
 refine Zc (Zd (O Z Z (Zq Z aA ay (Zb (V (Zc (QA (Zx (decide_eq_false (by omega))) (QF (Ql (Ql (Q7 (V (Zc (Zd (O Z Z (Zm (v := U b) Z ax (O Z Z (Zo (v := U b) Z Z (Zb (V (Q1 ?_)))))))))))))))))))))
 have aL := Zu hm
 subst r
 refine ⟨_, QX Z, ?_⟩
 have aq := ap.drop
 exact ⟨a7, av, aq, Z⟩
theorem S44 : Jb Tryz.prog 44 = some (22, 1, 24) := by kernel_rfl
theorem Z22 : JA Tryz.prog 22 = some (Value.slice none 0 0) := by kernel_rfl
theorem QaQ : Jk Tryz.prog 38 2 = some 2 := by kernel_rfl
theorem QnH : (Tryz.f106.name == "runtime.NumGoroutine") = false := by kernel_rfl
theorem Qby {w0 w : World} {s : PHeap} {H : List Res} {i : (List Int)} {g : Int} {c : Value} {r : Int} (hm : JJ i g = some r) (hS : St w0 s (H) w) (j : SliceRep (Qa .i64) s c i) :
  Calls Tryz.prog 106 #[c, U g] w fun e w' => ∃ v, e = .returned v ∧ ((fun (a2 : Int) => ∃ (z : PHeap) , PHeap.le s z ∧ St w0 z (H) w' ∧ v = U a2) r) := by
 unfold JJ at hm
 refine Qy Tryz.func106 Z Z (Zc (Zd (O Z Z (Zo (v := U 0) Z Z (Zb (V (Zc (Zc (Zd (O Z Z (Zm (v := c) Z Z (O Z Z (Zr Jt Z Z j (O Z Z (Zm (v := U 0) Z Z (Zb (V ?_)))))))))))))))))
 obtain ⟨o, ae, ao, am, ak⟩ := QO hm
 refine QJ (M := fun f' w' => ∃ s', (o = .next s' ∨ o = .brk s') ∧ (fun (_ : Unit) => ∃ (aa : PHeap) , PHeap.le s aa ∧ St w0 aa (H) w' ∧ f' 0 = c ∧ f' 1 = U g ∧ f' 7 = U ((i.length : Int))) s') ?_ ?_
 ·refine Qm (J4 (fun k' s' f' w' => (fun (_ : Unit) => ∃ (ab : PHeap) , PHeap.le s ab ∧ St w0 ab (H) w' ∧ f' 0 = c ∧ f' 1 = U g ∧ f' 7 = U ((i.length : Int)) ∧ f' 8 = U (k' : Int)) s') ae ?_ ?_ ?_)
  ·exact ⟨s, (Zv _), hS, Z, Z, Z, Z⟩
  ·intro b aF p a8 aJ al af a ap
   obtain ⟨ac, m, l, t, u, x, n⟩ := af
   refine Zc (Zd (O Z Z (Zq Z n x (Zb (V (Zc (QK (Zx (decide_eq_true (by omega))) (Qp (V (Zc (Qm (Zc (Zd (O Z Z (Zm (v := U ((b : Int))) Z n (O Z Z (Zo (v := U ((b : Int))) Z Z (Zb (V (Zc (Zd (O Z Z (Zm (v := U g) Z u (O Z Z (Zm (v := c) Z t (O Z Z (Zm (v := U ((b : Int))) Z Z ?_)))))))))))))))))))))))))))
   obtain ⟨aM, ax, a⟩ := Zg a
   refine O Z Z (Qu Jt Z Z Z (j.mono m) ax ?_)
   intro a3 aB ad
   refine O Z Z (Zw (E := (Qa .i64)) l A3 Z Z Z ad ?_)
   intro aI ay
   obtain rfl := Qs.1 ay
   refine O Z Z (Exec.eql Z Z Z (Zb (V ?_)))
   rcases Qg a with ⟨d, a⟩ | ⟨d, a⟩
   ·refine Qv Z d (Zc (Zd (O Z Z (Zm (v := U ((b : Int))) Z Z (O Z Z (Zo (v := U ((b : Int))) Z Z (Zb (V (Q1 (QD (Qj (Qj (QD (Qj (Qj ?_)))))))))))))))
    have a4 := Zu a
    subst p
    have an := ao _ (ap (by intro _ h; cases h))
    have a5 := Zu an
    subst r
    refine ⟨_, QX Z, ?_⟩
    exact ⟨ac, m, l, Z⟩
   refine Qw Z d ?_
   replace d := Zk d
   refine Qp (Qz (V (Zd (O Z Z (Exec.add Z n Z (O Z Z (Zm (v := U (IntKind.i64.wrap ((b : Int) + 1))) Z Z (Zb (V ?_)))))))))
   have a6 := Zu a
   subst p
   refine ⟨_, Z, ?_⟩; exact ⟨ac, m, l, t, u, x, (Eq.trans Z (QB al (SliceRep.le j)))⟩
  intro aG a9 aK ag aq
  obtain ⟨az, ar, ai, av, aw, y, a1⟩ := ag
  refine Zc (Zd (O Z Z (Zq Z a1 y (Zb (V (Zc (QA (Zx (decide_eq_false (by omega))) (QF (Ql (Ql (Q7 (V ?_))))))))))))
  refine ⟨_, .inl aq, ?_⟩; exact ⟨az, ar, ai, av, aw, y⟩
 rintro aA aL ⟨aH, q, ah⟩
 have hm := q.elim (am _) (ak _)
 clear q
 obtain ⟨a0, au, aj, aC, aD, aE⟩ := ah
 refine (V (Zc (Zd (O Z Z (Zo (v := U ((-1))) Z Z (Zb (V (Q1 ?_))))))))
 have a7 := Zu hm
 subst r
 refine ⟨_, QX Z, ?_⟩
 exact ⟨a0, au, aj, Z⟩
theorem N80 : (Tryz.f80.name == "runtime.NumGoroutine") = false := by kernel_rfl
theorem Jz {w0 w : World} {s : PHeap} {H : List Res} {d : (List Int)} {a : Int} {b : Value} {r : Bool} (hm : QW d a = some r) (hS : St w0 s (H) w) (f : SliceRep (Qa .i64) s b d) :
  Calls Tryz.prog 80 #[b, U a] w fun e w' => ∃ v, e = .returned v ∧ ((fun (k : Bool) => ∃ (c : PHeap) , PHeap.le s c ∧ St w0 c (H) w' ∧ v = Value.bool (k)) r) := by
 unfold QW at hm
 refine Qy Tryz.func80 Z Z (Zc (Zd (O Z Z (Zo (v := Vb false) Z Z (Zb (V (Zc (Zd (O Z Z (Zm (v := b) Z Z (O Z Z (Zm (v := U a) Z Z ?_))))))))))))
 obtain ⟨l, i, hm⟩ := Zg hm
 refine O Z Z (Exec.call Z Z Tryz.func106 Z QnH (Zi Z (Zi Z Qk)) ((Qby i hS f).mono ?_))
 rintro _ n ⟨_, rfl, ⟨j, h, g, rfl⟩⟩
 refine ⟨_, Z, ?_⟩
 refine O Z Z (Exec.geq Z Z Z (O Z Z (Zo (v := Vb (decide (0 ≤ l))) Z Z (Zb (V (Q1 ?_))))))
 have m := Zu hm
 subst r
 refine ⟨_, QX Z, ?_⟩
 exact ⟨j, h, g, Z⟩
theorem Qo8 : (Tryz.f128.name == "runtime.NumGoroutine") = false := by kernel_rfl
theorem QdR {w0 w : World} {s : PHeap} {H : List Res} {a : Fact} {b : Int} {d f : Nat} {r : Bool} (hm : Yc a b = some r) (hS : St w0 s (H) w) (h : At s d f (Qa .i64) b) :
  Calls Tryz.prog 128 #[Value.agg #[U (a.Var), U (a.Val)], Value.pointer (some ⟨d, f, none⟩)] w fun e w' => ∃ v, e = .returned v ∧ ((fun (k : Bool) => ∃ (g : PHeap) , PHeap.le s g ∧ St w0 g (H) w' ∧ v = Value.bool (k)) r) := by
 unfold Yc at hm
 refine Qy Tryz.func128 Z Z (Zc (Zd (O Z Z (Exec.box (cs := [U (a.Var), U (a.Val)]) hS Z Z Z ?_))))
 intro l o c
 refine O Z Z (Zo (v := Vb false) Z Z (Zb (V (Zc (Zd (O Z Z (Zp Yj Z Z Z (O Z Z (Zn (c) A3 Z Z Z (O Z Z (Zw (E := (Qa .i64)) c A3 Z Z Z h ?_)))))))))))
 intro n j
 obtain rfl := Qs.1 j
 refine O Z Z (Exec.eql Z Z Z (O Z Z (Zo (v := Vb (decide (a.Var = b))) Z Z (Zb (V (Q1 ?_))))))
 have m := Zu hm
 subst r
 refine ⟨_, QX Z, ?_⟩
 have i := c.drop
 exact ⟨s, (Zv _), i, Z⟩
theorem Qo2 : (Tryz.f148.name == "runtime.NumGoroutine") = false := by kernel_rfl
theorem QcG {w0 w : World} {s : PHeap} {H : List Res} {l : (List Fact)} {n : Int} {c : Value} {d i : Nat} {r : Int} (hm : Kt l n = some r) (hS : St w0 s (H) w) (m : SliceRep encFact s c l) (ah : At s d i (Qa .i64) n) :
  Calls Tryz.prog 148 #[c, Value.func (.func 128) #[] #[Value.pointer (some ⟨d, i, none⟩)]] w fun e w' => ∃ v, e = .returned v ∧ ((fun (a8 : Int) => ∃ (ad : PHeap) , PHeap.le s ad ∧ St w0 ad (H) w' ∧ v = U a8) r) := by
 unfold Kt at hm
 refine Qy Tryz.func148 Z Z (Zc (Zd (O Z Z (Zo (v := U 0) Z Z (Zb (V (Zc (Zc (Zd (O Z Z (Zm (v := c) Z Z (O Z Z (Zr S23 Z Z m (O Z Z (Zm (v := U 0) Z Z (Zb (V ?_)))))))))))))))))
 obtain ⟨p, aj, av, ar, ap⟩ := QO hm
 refine QJ (M := fun f' w' => ∃ s', (p = .next s' ∨ p = .brk s') ∧ (fun (_ : Unit) => ∃ (ae : PHeap) , PHeap.le s ae ∧ St w0 ae (H) w' ∧ f' 0 = c ∧ f' 1 = Value.func (.func 128) #[] #[Vp (some ⟨d, i, none⟩)] ∧ f' 7 = U ((l.length : Int))) s') ?_ ?_
 ·refine Qm (J4 (fun k' s' f' w' => (fun (_ : Unit) => ∃ (af : PHeap) , PHeap.le s af ∧ St w0 af (H) w' ∧ f' 0 = c ∧ f' 1 = Value.func (.func 128) #[] #[Vp (some ⟨d, i, none⟩)] ∧ f' 7 = U ((l.length : Int)) ∧ f' 8 = U (k' : Int)) s') aj ?_ ?_ ?_)
  ·exact ⟨s, (Zv _), hS, Z, Z, Z, Z⟩
  ·intro b aM q aE aQ aq ak a aw
   obtain ⟨aL, j, t, z, aa, ab, o⟩ := ak
   refine Zc (Zd (O Z Z (Zq Z o ab (Zb (V (Zc (QK (Zx (decide_eq_true (by omega))) (Qp (V (Zc (Qm (Zc (Zd (O Z Z (Zm (v := U ((b : Int))) Z o (O Z Z (Zo (v := U ((b : Int))) Z Z (Zb (V (Zc (Zd (O Z Z (Zm (v := Value.func (.func 128) #[] #[Vp (some ⟨d, i, none⟩)]) Z aa (O Z Z (Zm (v := c) Z z (O Z Z (Zm (v := U ((b : Int))) Z Z ?_)))))))))))))))))))))))))))
   obtain ⟨a6, a2, a⟩ := Zg a
   refine O Z Z (Qu S23 Z Z Z (m.mono j) a2 ?_)
   intro a9 aH ai
   refine O Z Z (Zw (E := encFact) t A90 Z Z Z ai ?_)
   intro aP a3
   obtain rfl := Ye.1 a3
   refine O Z Z (Qj8 Z Z Tryz.func128 Z Qo8 (Zi Z Qk) Z ((QdR (QbI a6 n) t (ah.mono j)).mono ?_))
   rintro _ aR ⟨_, rfl, ⟨ag, y, u, rfl⟩⟩
   refine ⟨_, Z, ?_⟩
   refine Zb (V ?_)
   rcases Qg a with ⟨g, a⟩ | ⟨g, a⟩
   ·refine Qv Z g (Zc (Zd (O Z Z (Zm (v := U ((b : Int))) Z Z (O Z Z (Zo (v := U ((b : Int))) Z Z (Zb (V (Q1 (QD (Qj (Qj (QD (Qj (Qj ?_)))))))))))))))
    have aA := Zu a
    subst q
    have au := av _ (aw (by intro _ h; cases h))
    have aB := Zu au
    subst r
    refine ⟨_, QX Z, ?_⟩
    exact ⟨ag, (Zt j y), u, Z⟩
   refine Qw Z g ?_
   replace g := Zk g
   refine Qp (Qz (V (Zd (O Z Z (Exec.add Z o Z (O Z Z (Zm (v := U (IntKind.i64.wrap ((b : Int) + 1))) Z Z (Zb (V ?_)))))))))
   have aC := Zu a
   subst q
   refine ⟨_, Z, ?_⟩; exact ⟨ag, (Zt j y), u, z, aa, ab, (Eq.trans Z (QB aq (SliceRep.le m)))⟩
  intro aN aF aS al ax
  obtain ⟨a4, ay, an, a0, a1, ac, a7⟩ := al
  refine Zc (Zd (O Z Z (Zq Z a7 ac (Zb (V (Zc (QA (Zx (decide_eq_false (by omega))) (QF (Ql (Ql (Q7 (V ?_))))))))))))
  refine ⟨_, .inl ax, ?_⟩; exact ⟨a4, ay, an, a0, a1, ac⟩
 rintro aG aT ⟨aO, x, am⟩
 have hm := x.elim (ar _) (ap _)
 clear x
 obtain ⟨a5, az, ao, aI, aJ, aK⟩ := am
 refine (V (Zc (Zd (O Z Z (Zo (v := U ((-1))) Z Z (Zb (V (Q1 ?_))))))))
 have aD := Zu hm
 subst r
 refine ⟨_, QX Z, ?_⟩
 exact ⟨a5, az, ao, Z⟩
theorem Qo9 : (Tryz.f127.name == "runtime.NumGoroutine") = false := by kernel_rfl
theorem QdS {w0 w : World} {s : PHeap} {H : List Res} {g : (List Fact)} {d : Int} {c : Value} {a b : Nat} {r : Bool} (hm : YD g d = some r) (hS : St w0 s (H) w) (h : SliceRep encFact s c g) (i : At s a b (Qa .i64) d) :
  Calls Tryz.prog 127 #[c, Value.func (.func 128) #[] #[Value.pointer (some ⟨a, b, none⟩)]] w fun e w' => ∃ v, e = .returned v ∧ ((fun (n : Bool) => ∃ (f : PHeap) , PHeap.le s f ∧ St w0 f (H) w' ∧ v = Value.bool (n)) r) := by
 unfold YD at hm
 refine Qy Tryz.func127 Z Z (Zc (Zd (O Z Z (Zo (v := Vb false) Z Z (Zb (V (Zc (Zd (O Z Z (Zm (v := c) Z Z (O Z Z (Zm (v := Value.func (.func 128) #[] #[Vp (some ⟨a, b, none⟩)]) Z Z ?_))))))))))))
 obtain ⟨o, l, hm⟩ := Zg hm
 refine O Z Z (Exec.call Z Z Tryz.func148 Z Qo2 (Zi Z (Zi Z Qk)) ((QcG l hS h i).mono ?_))
 rintro _ q ⟨_, rfl, ⟨m, k, j, rfl⟩⟩
 refine ⟨_, Z, ?_⟩
 refine O Z Z (Exec.geq Z Z Z (O Z Z (Zo (v := Vb (decide (0 ≤ o))) Z Z (Zb (V (Q1 ?_))))))
 have p := Zu hm
 subst r
 refine ⟨_, QX Z, ?_⟩
 exact ⟨m, k, j, Z⟩
theorem QoI : (Tryz.f104.name == "runtime.NumGoroutine") = false := by kernel_rfl
theorem Qfo {w0 w : World} {s : PHeap} {H : List Res} {c : (List Fact)} {a : Int} {b : Value} {r : Bool} (hm : YO c a = some r) (hS : St w0 s (H) w) (g : SliceRep encFact s b c) :
  Calls Tryz.prog 104 #[b, U a] w fun e w' => ∃ v, e = .returned v ∧ ((fun (o : Bool) => ∃ (f : PHeap) , PHeap.le s f ∧ St w0 f (H) w' ∧ v = Value.bool (o)) r) := by
 unfold YO at hm
 refine Qy Tryz.func104 Z Z (Zc (Zd (O Z Z (Exec.box (cs := [U a]) hS Z Z Z ?_))))
 intro q x h
 refine O Z Z (Zo (v := Vb false) Z Z (Zb (V (Zc (Zd (O Z Z (Zm (v := b) Z Z ?_)))))))
 obtain ⟨u, d, i, m⟩ := St.freezeVar (E := (Qa .i64)) (y := a) h rfl
 refine O Z Z (Exec.makeFunc Z (Zi Z Qk) ?_)
 obtain ⟨p, l, hm⟩ := Zg hm
 refine O Z Z (Exec.call Z Z Tryz.func127 Z Qo9 (Zi Z (Zi Z Qk)) ((QdS l i (g.mono d) m).mono ?_))
 rintro _ z ⟨_, rfl, ⟨n, k, j, rfl⟩⟩
 refine ⟨_, Z, ?_⟩
 refine O Z Z (Zo (v := Vb p) Z Z (Zb (V (Q1 ?_))))
 have t := Zu hm
 subst r
 refine ⟨_, QX Z, ?_⟩
 exact ⟨n, (Zt d k), j, Z⟩
theorem Qbc {w0 w : World} {s : PHeap} {H : List Res} {c : (List Int)} {i : Int} {a : Value} {r : Int} (hm : K5 c i = some r) (hS : St w0 s (Res.arr (Qa .i64) 3 a c :: H) w) :
  Calls Tryz.prog 106 #[a, U i] w fun e w' => ∃ v, e = .returned v ∧ ((fun (a1 : Int) => ∃ (aa : PHeap) , PHeap.le s aa ∧ St w0 aa (Res.arr (Qa .i64) 3 a c :: H) w' ∧ v = U a1) r) := by
 unfold K5 at hm
 refine Qy Tryz.func106 Z Z (Zc (Zd (O Z Z (Zo (v := U 0) Z Z (Zb (V (Zc (Zc (Zd (O Z Z (Zm (v := a) Z Z (O Z Z (QQ (hS) Jt Z Z (O Z Z (Zm (v := U 0) Z Z (Zb (V ?_)))))))))))))))))
 obtain ⟨n, ae, ao, am, ak⟩ := QO hm
 refine QJ (M := fun f' w' => ∃ s', (n = .next s' ∨ n = .brk s') ∧ (fun (_ : Unit) => ∃ (ab : PHeap) , PHeap.le s ab ∧ St w0 ab (Res.arr (Qa .i64) 3 a c :: H) w' ∧ f' 0 = a ∧ f' 1 = U i ∧ f' 7 = U ((c.length : Int))) s') ?_ ?_
 ·refine Qm (J4 (fun k' s' f' w' => (fun (_ : Unit) => ∃ (ac : PHeap) , PHeap.le s ac ∧ St w0 ac (Res.arr (Qa .i64) 3 a c :: H) w' ∧ f' 0 = a ∧ f' 1 = U i ∧ f' 7 = U ((c.length : Int)) ∧ f' 8 = U (k' : Int)) s') ae ?_ ?_ ?_)
  ·exact ⟨s, (Zv _), hS, Z, Z, Z, Z⟩
  ·intro d aE o a7 aI al af b ap
   obtain ⟨ad, t, j, u, x, y, m⟩ := af
   refine Zc (Zd (O Z Z (Zq Z m y (Zb (V (Zc (QK (Zx (decide_eq_true (by omega))) (Qp (V (Zc (Qm (Zc (Zd (O Z Z (Zm (v := U ((d : Int))) Z m (O Z Z (Zo (v := U ((d : Int))) Z Z (Zb (V (Zc (Zd (O Z Z (Zm (v := U i) Z x (O Z Z (Zm (v := a) Z u (O Z Z (Zm (v := U ((d : Int))) Z Z ?_)))))))))))))))))))))))))))
   obtain ⟨aL, l, b⟩ := Zg b
   obtain ⟨aA, a2, p⟩ := j.arr_at l
   refine O Z Z (Qc Jt Z p Z (Qe l).1 (Qe l).2.1 (O Z Z (Qt (F := (Qa .i64)) (j) p A3 Z Z Z l (Sub.refl _) ?_)))
   intro aH ax
   obtain rfl := Qs.1 ax
   refine O Z Z (Exec.eql Z Z Z (Zb (V ?_)))
   rcases Qg b with ⟨g, b⟩ | ⟨g, b⟩
   ·refine Qv Z g (Zc (Zd (O Z Z (Zm (v := U ((d : Int))) Z Z (O Z Z (Zo (v := U ((d : Int))) Z Z (Zb (V (Q1 (QD (Qj (Qj (QD (Qj (Qj ?_)))))))))))))))
    have a3 := Zu b
    subst o
    have an := ao _ (ap (by intro _ h; cases h))
    have a4 := Zu an
    subst r
    refine ⟨_, QX Z, ?_⟩
    exact ⟨ad, t, j, Z⟩
   refine Qw Z g ?_
   replace g := Zk g
   refine Qp (Qz (V (Zd (O Z Z (Exec.add Z m Z (O Z Z (Zm (v := U (IntKind.i64.wrap ((d : Int) + 1))) Z Z (Zb (V ?_)))))))))
   have a5 := Zu b
   subst o
   refine ⟨_, Z, ?_⟩; exact ⟨ad, t, j, u, x, y, (Eq.trans Z (QB al hS.arr_le))⟩
  intro aF a8 aJ ag aq
  obtain ⟨ay, ar, ai, av, aw, z, a0⟩ := ag
  refine Zc (Zd (O Z Z (Zq Z a0 z (Zb (V (Zc (QA (Zx (decide_eq_false (by omega))) (QF (Ql (Ql (Q7 (V ?_))))))))))))
  refine ⟨_, .inl aq, ?_⟩; exact ⟨ay, ar, ai, av, aw, z⟩
 rintro a9 aK ⟨aG, q, ah⟩
 have hm := q.elim (am _) (ak _)
 clear q
 obtain ⟨az, au, aj, aB, aC, aD⟩ := ah
 refine (V (Zc (Zd (O Z Z (Zo (v := U ((-1))) Z Z (Zb (V (Q1 ?_))))))))
 have a6 := Zu hm
 subst r
 refine ⟨_, QX Z, ?_⟩
 exact ⟨az, au, aj, Z⟩
theorem Qa7 {w0 w : World} {s : PHeap} {H : List Res} {b : (List Int)} {c : Int} {a : Value} {r : Bool} (hm : JG b c = some r) (hS : St w0 s (Res.arr (Qa .i64) 3 a b :: H) w) :
  Calls Tryz.prog 80 #[a, U c] w fun e w' => ∃ v, e = .returned v ∧ ((fun (j : Bool) => ∃ (d : PHeap) , PHeap.le s d ∧ St w0 d (Res.arr (Qa .i64) 3 a b :: H) w' ∧ v = Value.bool (j)) r) := by
 unfold JG at hm
 refine Qy Tryz.func80 Z Z (Zc (Zd (O Z Z (Zo (v := Vb false) Z Z (Zb (V (Zc (Zd (O Z Z (Zm (v := a) Z Z (O Z Z (Zm (v := U c) Z Z ?_))))))))))))
 obtain ⟨k, h, hm⟩ := Zg hm
 refine O Z Z (Exec.call Z Z Tryz.func106 Z QnH (Zi Z (Zi Z Qk)) ((Qbc h hS).mono ?_))
 rintro _ m ⟨_, rfl, ⟨i, g, f, rfl⟩⟩
 refine ⟨_, Z, ?_⟩
 refine O Z Z (Exec.geq Z Z Z (O Z Z (Zo (v := Vb (decide (0 ≤ k))) Z Z (Zb (V (Q1 ?_))))))
 have l := Zu hm
 subst r
 refine ⟨_, QX Z, ?_⟩
 exact ⟨i, g, f, Z⟩
theorem N78 : (Tryz.f78.name == "runtime.NumGoroutine") = false := by kernel_rfl
theorem Qd3 {w0 w : World} {s : PHeap} {H : List Res} {a : Op} {aV : (List Int)} {u : Value} {h : Value} {o : Value} {r : (List Int)} (hm : KQ a aV = some r) (hS : St w0 s (H) w) (bd : SliceRep encFact s u a.Pre) (ag : SliceRep encEffect s h a.Effs) (a9 : SliceRep (Qa .i64) s o aV) :
  Calls Tryz.prog 78 #[Value.agg #[Value.string (a.Name), U (a.Cost), u, h], o] w fun e w' => ∃ v, e = .returned v ∧ ((fun (cD : (List Int)) => ∃ (a6 : PHeap) (bb : Value), PHeap.le s a6 ∧ St w0 a6 (H) w' ∧ v = bb ∧ SliceRep (Qa .i64) a6 bb cD) r) := by
 unfold KQ at hm
 refine Qy Tryz.func78 Z Z (Zc (Zd (O Z Z (Exec.box (cs := [Value.string (a.Name), U (a.Cost), u, h]) hS Z Z Z ?_))))
 intro n dm aB
 refine O Z Z (Zo (v := Vs none 0 0) Z Z (Zb (V (Zc (Zd (O Z Z (Zo (v := Vs none 0 0) Z Z (Zb (V (Zc (Zc (Zd (O Z Z (Zp QdY Z Z Z (O Z Z (Zn (aB) A58 Z Z Z (O Z Z (Zr S58 Z Z ag (O Z Z (Zm (v := U 0) Z Z (Zb (V ?_))))))))))))))))))))))
 obtain ⟨az, bg, hm⟩ := Zg hm
 refine Qm (J3 (fun k' s' f' w' => (fun (az : (List Int)) => ∃ (aW : PHeap) (j : Value), PHeap.le s aW ∧ St w0 aW (Res.box n 60 [Value.string (a.Name), U (a.Cost), u, h] :: Res.arr (Qa .i64) 3 j az :: H) w' ∧ f' 1 = o ∧ f' 2 = Vp (some ⟨n, 0, none⟩) ∧ f' 5 = j ∧ f' 11 = h ∧ f' 12 = U ((a.Effs.length : Int)) ∧ f' 13 = U (k' : Int)) s') bg ?_ ?_ ?_)
 ·have bo := aB.nilArr (Qa .i64) 3
  have bp := bo.f1
  exact ⟨s, (Vs none 0 0), (Zv _), bp, Z, Z, Z, Z, Z, Z⟩
 ·intro ac az aX cT dn aG bi g
  obtain ⟨dh, j, y, aC, a0, aI, aJ, a1, a2, au⟩ := bi
  refine Zc (Zd (O Z Z (Zq Z au a2 (Zb (V (Zc (QK (Zx (decide_eq_true (by omega))) (Qp (V (Zc (Qm (Zc (Zd ?_)))))))))))))
  obtain ⟨x, cr, g⟩ := Zg g
  refine O Z Z (Qu S58 Z a1 au (ag.mono y) cr ?_)
  intro cG db be
  refine O Z Z (Zw (E := encEffect) aC A95 Z Z Z be ?_)
  intro dk ct
  obtain ⟨ae, rfl, aq⟩ := Yv.1 ct
  refine O Z Z (Exec.alloc (cs := [Vs none 0 0, U 0, U 0]) aC Z95 Z Z ?_)
  intro cH dp bq
  refine O Z Z (Qf (ds := [ae, U (x.Var), U (x.Val)]) (es := [ae, U (x.Var), U (x.Val)]) bq A95 Z Z Z Z (Zj aq.one (Zj Z (Zj Z Q6))) (Nat.le_of_ble_eq_true Z) Z ?_)
  intro dq aD
  refine Zb (V (Zc (Zc (Zd (O Z Z (Zm (v := o) Z a0 (O Z Z (Zp QgV Z Z Z (O Z Z (Zn (aD) A3 Z Z Z ?_))))))))))
  obtain ⟨d6, cu, g⟩ := Zg g
  refine O Z Z (Exec.call Z Z Tryz.func80 Z N80 (Zi Z (Zi Z Qk)) ((Jz cu aD (a9.mono y)).mono ?_))
  rintro _ dr ⟨_, rfl, ⟨a7, t, av, rfl⟩⟩
  refine ⟨_, Z, ?_⟩
  refine O Z Z (Exec.not Z Z (Zb (V ?_)))
  rcases Qg g with ⟨aa, g⟩ | ⟨aa, g⟩
  ·refine Qv Z aa (QF (Ql (Q7 (V (Zd (O Z Z (Exec.add Z au Z (O Z Z (Zm (v := U (IntKind.i64.wrap ((ac : Int) + 1))) Z Z (Zb (V ?_)))))))))))
   have cK := Zu g
   subst aX
   have br := av.drop
   have bs := br.f1
   have bt := bs.f1
   exact ⟨a7, j, (Zt y t), bt, a0, aI, aJ, a1, a2, (Eq.trans Z (QB aG (SliceRep.le ag)))⟩
  refine Qw Z aa ?_
  replace aa := Zk aa
  refine Qp (V (Zc (Zd (O Z Z (Zp Qih Z Z Z (O Z Z (Zn (av) A23 Z Z Z (O Z Z (Zr S23 Z Z (aq.mono t) (O Z Z (Zm (v := U 0) Z Z (Zb (V ?_)))))))))))))
  obtain ⟨ai, bh, g⟩ := Zg g
  refine Qm (J3 (fun k' s' f' w' => (fun (ai : (List Int)) => ∃ (aY : PHeap) (l : Value), PHeap.le a7 aY ∧ St w0 aY (Res.box n 60 [Value.string (a.Name), U (a.Cost), u, h] :: Res.arr (Qa .i64) 3 l ai :: H) w' ∧ f' 1 = o ∧ f' 2 = Vp (some ⟨n, 0, none⟩) ∧ f' 5 = l ∧ f' 11 = h ∧ f' 12 = U ((a.Effs.length : Int)) ∧ f' 13 = U ((ac : Int)) ∧ f' 23 = ae ∧ f' 24 = U ((x.When.length : Int)) ∧ f' 25 = U (k' : Int)) s') bh ?_ ?_ ?_)
  ·have bu := av.drop
   have bv := bu.f1
   have bw := bv.f1
   exact ⟨a7, j, (Zv _), bw, a0, aI, aJ, a1, a2, au, Z, Z, Z⟩
  ·intro ay ai c3 cU dt bR bj p
   obtain ⟨c4, l, aj, aE, al, am, an, a3, a4, a5, ao, ap, af⟩ := bj
   refine Zc (Zd (O Z Z (Zq Z af ap (Zb (V (Zc (QK (Zx (decide_eq_true (by omega))) (Qp (V (Zc (Qm (Zc (Zd ?_)))))))))))))
   obtain ⟨m, cv, p⟩ := Zg p
   refine O Z Z (Qu S23 Z ao af (aq.mono (Zt t aj)) cv ?_)
   intro cI dc bf
   refine O Z Z (Zw (E := encFact) aE A90 Z Z Z bf ?_)
   intro dl cw
   obtain rfl := Ye.1 cw
   refine O Z Z (Exec.alloc (cs := [U 0, U 0]) aE Z90 Z Z ?_)
   intro aA du bx
   refine O Z Z (Qf (ds := [U (m.Var), U (m.Val)]) (es := [U (m.Var), U (m.Val)]) bx A90 Z Z Z Z (Zj Z (Zj Z Q6)) (Nat.le_of_ble_eq_true Z) Z ?_)
   intro dv aF
   refine Zb (V (Zc ?_))
   obtain ⟨z, b, p⟩ := Zg p
   refine QJ (M := fun f' w' => (fun (z : Bool) => ∃ (aZ : PHeap) , PHeap.le c4 aZ ∧ St w0 aZ (Res.box n 60 [Value.string (a.Name), U (a.Cost), u, h] :: Res.arr (Qa .i64) 3 l ai :: Res.box aA 90 [U (m.Var), U (m.Val)] :: H) w' ∧ f' 1 = o ∧ f' 2 = Vp (some ⟨n, 0, none⟩) ∧ f' 5 = l ∧ f' 9 = Vp (some ⟨aA, 0, none⟩) ∧ f' 11 = h ∧ f' 12 = U ((a.Effs.length : Int)) ∧ f' 13 = U ((ac : Int)) ∧ f' 23 = ae ∧ f' 24 = U ((x.When.length : Int)) ∧ f' 25 = U ((ay : Int)) ∧ f' 48 = Vb z) z) ?_ ?_
   ·refine Zd (O Z Z (Zm (v := o) Z al (O Z Z (Zp Yj Z Z Z (O Z Z (Zn (aF) A3 Z Z Z ?_))))))
    obtain ⟨cE, cx, b⟩ := Zg b
    refine O Z Z (Exec.call Z Z Tryz.func80 Z N80 (Zi Z (Zi Z Qk)) ((Jz cx aF (a9.mono (Zt (Zt y t) aj))).mono ?_))
    rintro _ dw ⟨_, rfl, ⟨c5, ak, ah, rfl⟩⟩
    refine ⟨_, Z, ?_⟩
    refine O Z Z (Exec.not Z Z (O Z Z (Zm (v := Vb (!cE)) Z Z ?_)))
    rcases Qg b with ⟨d, b⟩ | ⟨d, b⟩
    ·refine Qo Z (Zf Z (Zx d)) Z (Zp Qii Z am Z (Qo Z (Zf Z (Zx d)) Z (Zn (ah.f1) A23 Z Z Z (Qo Z (Zf Z (Zx d)) Z (Zp Yj Z Z Z (Qo Z (Zf Z (Zx d)) Z (Zn (ah) A3 Z Z Z ?_)))))))
     obtain ⟨d7, cy, b⟩ := Zg b
     refine Qo Z (Zf Z (Zx d)) Z (Exec.call Z Z Tryz.func104 Z QoI (Zi Z (Zi Z Qk)) ((Qfo cy ah (bd.mono (Zt (Zt (Zt y t) aj) ak))).mono ?_))
     rintro _ dx ⟨_, rfl, ⟨c6, aH, aw, rfl⟩⟩
     refine ⟨_, Z, ?_⟩
     refine Qo Z (Zf Z (Zx d)) Z (Exec.not Z Z ?_)
     refine Q0 2 (by rw [d]; rfl) ?_
     rcases Qg b with ⟨i, b⟩ | ⟨i, b⟩
     ·refine Qo Z (Zf Z (Zx i)) Z (Zm (v := l) Z an (Qo Z (Zf Z (Zx i)) Z (Zp Yj Z Z Z (Qo Z (Zf Z (Zx i)) Z (Zn (aw) A3 Z Z Z ?_)))))
      obtain ⟨cF, cz, b⟩ := Zg b
      have bz := aw.f2
      refine Qo Z (Zf Z (Zx i)) Z (Exec.call Z Z Tryz.func80 Z N80 (Zi Z (Zi Z Qk)) ((Qa7 cz bz).mono ?_))
      rintro _ dy ⟨_, rfl, ⟨c7, bS, b0, rfl⟩⟩
      refine ⟨_, Z, ?_⟩
      refine Qo Z (Zf Z (Zx i)) Z (Exec.not Z Z (O Z Z (Zs (v := Vb (!cF)) Z (Zx i) Z (Zb (V ?_)))))
      have cL := Zu b
      subst z
      have b1 := b0.f1
      have b2 := b1.f1
      have b3 := b2.f2
      exact ⟨c7, (Zt (Zt ak aH) bS), b3, al, am, an, Z, a3, a4, a5, ao, ap, af, Z⟩
     replace i := Zk i
     refine Q0 6 (by rw [i]; rfl) ?_
     refine Zb (V ?_)
     have cM := Zu b
     subst z
     have b4 := aw.f2
     have b5 := b4.f2
     exact ⟨c6, (Zt ak aH), b5, al, am, an, Z, a3, a4, a5, ao, ap, af, Z⟩
    replace d := Zk d
    refine Q0 14 (by rw [d]; rfl) ?_
    refine Zb (V ?_)
    have cN := Zu b
    subst z
    have b6 := ah.f2
    have b7 := b6.f2
    exact ⟨c5, ak, b7, al, am, an, Z, a3, a4, a5, ao, ap, af, Z⟩
   intro cV dz bm
   obtain ⟨a8, bT, ax, aK, aL, aM, bZ, aN, aO, aP, aQ, aR, aS, aT⟩ := bm
   refine (V ?_)
   obtain ⟨ad, q, p⟩ := Zg p
   refine QJ (M := fun f' w' => (fun (ad : (List Int)) => ∃ (ba : PHeap) (ar : Value), PHeap.le a8 ba ∧ St w0 ba (Res.box n 60 [Value.string (a.Name), U (a.Cost), u, h] :: Res.arr (Qa .i64) 3 ar ad :: H) w' ∧ f' 1 = o ∧ f' 2 = Vp (some ⟨n, 0, none⟩) ∧ f' 5 = ar ∧ f' 11 = h ∧ f' 12 = U ((a.Effs.length : Int)) ∧ f' 13 = U ((ac : Int)) ∧ f' 23 = ae ∧ f' 24 = U ((x.When.length : Int)) ∧ f' 25 = U ((ay : Int))) ad) ?_ ?_
   ·rcases Qg q with ⟨ab, q⟩ | ⟨ab, q⟩
    ·refine Qv aT ab (Zd (O Z Z (Zm (v := l) Z aM (O Z Z (Zp Yj Z bZ Z (O Z Z (Zn (ax.f2) A3 Z Z Z (O Z Z (Exec.buildSlice (Te := 3) (cs := [U (m.Var)]) ax Z (Qb (c := [U (m.Var)]) (Qi Z Z) Qx) (fun _ => by kernel_rfl) ?_)))))))))
     intro cJ d0 b8
     obtain ⟨cZ, c0, q⟩ := Zg q
     have b9 := b8.f2
     refine O Z Z (QR (E := (Qa .i64)) (ys := [m.Var]) b9 Jt Z3 Z (by decide) Z Z Z Z ⟨[U (m.Var)], [], Z, Z, Z⟩ Z c0 ?_)
     intro bc d1 bA
     refine O Z Z (Zo (v := bc) Z Z (Zb (V ?_)))
     have cO := Zu q
     subst ad
     have bB := (bA.f2).drop
     have bC := bB.f1
     exact ⟨a8, bc, (Zv _), bC, aK, aL, Z, aN, aO, aP, aQ, aR, aS⟩
    refine Qw aT ab ?_
    replace ab := Zk ab
    refine Qp (V ?_)
    have cP := Zu q
    subst ad
    have bD := (ax.f2).drop
    have bE := bD.f1
    have bF := bE.f1
    exact ⟨a8, l, (Zv _), bF, aK, aL, aM, aN, aO, aP, aQ, aR, aS⟩
   intro cW d2 bn
   obtain ⟨c8, ar, bU, bG, ca, cb, cc, cd, ce, cf, cg, ch, ci⟩ := bn
   refine (Qz (V (Zd (O Z Z (Exec.add Z ci Z (O Z Z (Zm (v := U (IntKind.i64.wrap ((ay : Int) + 1))) Z Z (Zb (V ?_)))))))))
   have cQ := Zu p
   subst c3
   have bH := bG.f1
   have bI := bH.f1
   exact ⟨c8, ar, (Zt (Zt aj bT) bU), bI, ca, cb, cc, cd, ce, cf, cg, ch, (Eq.trans Z (QB bR (SliceRep.le (aq.mono t))))⟩
  intro cX d3 bk
  obtain ⟨c9, l, bV, bJ, cj, ck, cl, cm, cn, co, dd, cp, cB⟩ := bk
  refine Zc (Zd (O Z Z (Zq Z cB cp (Zb (V (Zc (QA (Zx (decide_eq_false (by omega))) (QF (Ql (Ql (Q7 (Qz (V (Zd (O Z Z (Exec.add Z co Z (O Z Z (Zm (v := U (IntKind.i64.wrap ((ac : Int) + 1))) Z Z (Zb (V ?_))))))))))))))))))))
  have cR := Zu g
  subst aX
  have bK := bJ.f1
  have bL := bK.f1
  exact ⟨c9, l, (Zt (Zt y t) bV), bL, cj, ck, cl, cm, cn, (Eq.trans Z (QB aG (SliceRep.le ag)))⟩
 intro cY d4 bl
 obtain ⟨di, j, bW, bM, de, df, aU, dg, cq, cC⟩ := bl
 refine Zc (Zd (O Z Z (Zq Z cC cq (Zb (V (Zc (QA (Zx (decide_eq_false (by omega))) (QF (Ql (Ql (Q7 (V (Zc (Zd (O Z Z (Zm (v := j) Z aU ?_))))))))))))))))
 obtain ⟨da, c1, hm⟩ := Zg hm
 have bN := bM.f1
 refine O Z Z (Exec.call Z Z Tryz.func53 Z N53 (Zi Z Qk) ((QcC c1 bN).mono ?_))
 rintro _ d5 ⟨_, rfl, ⟨dj, bX, bO, rfl⟩⟩
 refine ⟨_, Z, ?_⟩
 refine Zb (V (Zc (Zd (O Z Z (Zm (v := j) Z aU (O Z Z (Zo (v := j) Z Z (Zb (V (Q1 ?_))))))))))
 have cS := Zu hm
 subst r
 refine ⟨_, QX Z, ?_⟩
 obtain ⟨cA, bY, bP, c2⟩ := bO.freezeArr
 have bQ := bP.drop
 exact ⟨cA, j, (Zt (Zt bW bX) bY), bQ, Z, c2⟩
theorem N79 : (Tryz.f79.name == "runtime.NumGoroutine") = false := by kernel_rfl
end Go.Pw
